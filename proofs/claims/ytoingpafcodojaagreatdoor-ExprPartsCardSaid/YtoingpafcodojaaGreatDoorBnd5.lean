/- Texts that the last one leans on: The document's parser as a plain law: it goes on with its error set; what it tells is what the plain parser tells. Condition: the last token, and it alone, may be the end. The document's parser, part by part, tells what the plain parser tells. Conditions: the last token, and it alone, may be the end; the end has no text. The document's parser: its data as the engine reads it; its small functions. Conditions: the place within the tokens. The document's words: Integer, Keyword, Level. No condition. The document's parser: names, numbers, what may begin; rows. Conditions: the place within the tokens. The document's parser: where an operand may begin. Conditions: the place within the tokens. The document's parser: where a type may begin. Conditions: the place within the tokens. The document's parser: operands. Conditions: the tokens end with the end; at most 100000 of them. The document's parser: lines of operators, expressions. Conditions: the tokens end with the end; at most 100000 of them. The document's parser: brackets, arrays, references. Conditions: the tokens end with the end; at most 100000 of them. The document's parser: references. Conditions: the tokens end with the end; at most 100000 of them. The document's parser: switches. Conditions: the tokens end with the end; at most 100000 of them. The document's parser: types. Conditions: the tokens end with the end; at most 100000 of them. The document's parser: how a field is derived. Condi -/
import Derived.Test.YtoingpafcodojaaGreatDoorBnd1
import Derived.Test.YtoingpafcodojaaGreatDoorBnd2
import Derived.Test.YtoingpafcodojaaGreatDoorBnd3
import Derived.Test.YtoingpafcodojaaGreatDoorBnd4
set_option linter.unusedVariables false
set_option linter.unusedSimpArgs false
set_option maxRecDepth 100000
namespace Go.Proofs.YtoingpafcodojaaGreatDoor

structure RSt where
 i : Nat
 dep : Int
 err : Nat
 xs : List EX
 ts : List TY
def RM (α : Type) : Type := RSt → α × RSt
def RM.and {α β : Type} (x : RM α) (f : α → RM β) : RM β := fun s => f (x s).1 (x s).2
def RM.ret {α : Type} (v : α) : RM α := fun s => (v, s)
instance : Monad RM where
 pure := RM.ret
 bind := RM.and
theorem rand {α β : Type} {x : RM α} {f : α → RM β} {s s' : RSt} {v : α} (h : x s = (v, s')) : (x >>= f) s = f v s' := by show f (x s).1 (x s).2 = _; rw [h]
section
variable (L : List TokP)
def failR (e : Nat) (s : RSt) : RSt := if s.err = 0 then { s with err := e } else s
def guardR {α : Type} (v : α) (x : RM α) : RM α := fun s => if s.err = 0 then x s else (v, s)
def stepR : RM Unit := fun s => ((), { s with i := s.i + 1 })
def takeR (t : List UInt8) : RM Unit := guardR () fun s => if isV L s.i t = true then ((), { s with i := s.i + 1 }) else ((), { s with err := 4 })
def nameR : RM (List UInt8) := guardR [] fun s => if namedV L s.i = true then ((tk L s.i).t, { s with i := s.i + 1 }) else ([], { s with err := 4 })
def numberR : RM Nat := guardR 0 fun s => if (tk L s.i).k = 1 then ((tk L s.i).n, { s with i := s.i + 1 }) else (0, { s with err := 4 })
def roomR (n : Nat) : RM Unit := fun s => if 64 ≤ n then ((), failR 10 s) else ((), s)
def enterR (may : Bool) : RM Unit := guardR () fun s => if may = false then ((), { s with err := 4 }) else if 32 ≤ s.dep then ((), { s with err := 8 }) else ((), { s with dep := s.dep + 1 })
def leaveR : RM Unit := fun s => ((), { s with dep := s.dep - 1 })
def putR (x : EX) : RM Int := fun s => (s.xs.length, { s with xs := s.xs ++ [x] })
def layR (t : TY) : RM Int := fun s => (s.ts.length, { s with ts := s.ts ++ [t] })
def atR {α : Type} (p : Nat → Bool) (x y : RM α) : RM α := fun s => if p s.i = true then x s else y s
def deepR {α : Type} (p : Nat → Bool) (y : RM α) : RM α := (fun s => enterR (p s.i) s) >>= fun _ => y >>= fun k => leaveR >>= fun _ => pure k
def unR (un ex : RM Int) : RM Int := guardR 0
 (atR (isV L · t_bang) (takeR L t_bang >>= fun _ => deepR (beginsV L ·) un >>= fun k => putR ⟨2, [], 0, [], [k]⟩)
 (atR (isV L · t_lpar) (takeR L t_lpar >>= fun _ => deepR (beginsV L ·) ex >>= fun k => takeR L t_rpar >>= fun _ => pure k)
 (atR (namedV L ·) (nameR L >>= fun w => putR ⟨1, [], 0, w, []⟩) (numberR L >>= fun n => putR ⟨0, [], n, [], []⟩))))
def lineNR (lv : Nat) (x : RM Int) : Nat → Int → RM Int
 | 0, left => pure left
 | n + 1, left => guardR left fun s => atR (opAt L lv) (stepR >>= fun _ => x >>= fun right => putR ⟨3, (tk L s.i).t, 0, [], [left, right]⟩ >>= fun k => lineNR lv x n k) (pure left) s
def lineJR (un : RM Int) : Nat → RM Int
 | 0 => guardR 0 un
 | j + 1 => guardR 0 (lineJR un j >>= fun left => fun s => lineNR L (8 - j) (lineJR un j) (L.length - s.i + 1) left s)
def unRm : Nat → RM Int
 | 0 => unR L (pure 0) (pure 0)
 | m + 1 => unR L (unRm m) (lineJR L (unRm m) 8)
def exprR (m : Nat) : RM Int := lineJR L (unRm L m) 8
def bracketR (m : Nat) : RM Int := takeR L t_lsq >>= fun _ => exprR L m >>= fun k => takeR L t_rsq >>= fun _ => pure k
def arrayR (m : Nat) (t : TY) : RM Int := layR t >>= fun k => atR (isV L · t_lsq) (guardR k (bracketR L m >>= fun x => layR { tyP 5 with ex := x, inn := k })) (pure k)
def argsR (m : Nat) : Nat → List Int → RM (List Int)
 | 0, l => pure l
 | n + 1, l => guardR l (atR (isV L · t_comma) (takeR L t_comma >>= fun _ => (fun s => if beginsV L s.i = true then roomR l.length s else ((), s)) >>= fun _ => exprR L m >>= fun x => argsR m n (l ++ [x])) (pure l))
def refR (m : Nat) : RM TY := nameR L >>= fun w => atR (isV L · t_lpar)
 (takeR L t_lpar >>= fun _ => guardR [] (exprR L m >>= fun x => (fun s => argsR L m (L.length - s.i + 1) [x] s)) >>= fun l => takeR L t_rpar >>= fun _ => pure { tyP 10 with nm := w, args := l })
 (pure { tyP 10 with nm := w })
def innerR (kd : RM Int) : RM Int := deepR (startsV L ·) kd
def casesR (kd : RM Int) : Nat → List CA → RM (List CA)
 | 0, l => pure l
 | n + 1, l => guardR l (atR (isV L · w_case) (roomR l.length >>= fun _ => takeR L w_case >>= fun _ => numberR L >>= fun c => takeR L t_colon >>= fun _ => innerR L kd >>= fun k => takeR L t_semi >>= fun _ => casesR kd n (l ++ [⟨c, k⟩])) (pure l))
def choiceR (m : Nat) (kd : RM Int) : RM Int :=
 takeR L t_lpar >>= fun _ => exprR L m >>= fun x => takeR L t_rpar >>= fun _ => takeR L t_lcur >>= fun _ =>
 (fun s => casesR L kd (L.length - s.i + 1) [] s) >>= fun cs =>
 atR (isV L · w_else) (guardR (-1) (takeR L w_else >>= fun _ => takeR L t_colon >>= fun _ => innerR L kd >>= fun k => takeR L t_semi >>= fun _ => pure k)) (pure (-1)) >>= fun k =>
 takeR L t_rcur >>= fun _ => layR { tyP 9 with ex := x, inn := k, cases := cs }
def wordR (m : Nat) (kd : RM Int) (w : List UInt8) : RM Int :=
 match sizedV w with
 | some k => bracketR L m >>= fun x => (if k = 7 ∨ k = 8 then innerR L kd else pure (-1)) >>= fun i => layR { tyP k with ex := x, inn := i }
 | none =>
  if w = w_rest then innerR L kd >>= fun i => layR { tyP 6 with inn := i } else
  if w = w_tail then layR (tyP 4) else
  if w = w_none then layR (tyP 11) else
  if w = w_switch then choiceR L m kd else
  arrayR L m { tyP 0 with size := ((integerV w).getD (0, false)).1, little := ((integerV w).getD (0, false)).2 }
def kindFR (m : Nat) (kd : RM Int) : RM Int := guardR 0
 (atR (namedV L ·) (refR L m >>= fun t => arrayR L m t) (atR (startsV L ·) (fun s => (stepR >>= fun _ => wordR L m kd (tk L s.i).t) s) (fun s => (0, { s with err := 4 }))))
def kindR : Nat → RM Int
 | 0 => kindFR L 0 (pure 0)
 | m + 1 => kindFR L (m + 1) (kindR m)
def derivedR : RM (Nat × List UInt8 × List UInt8) :=
 atR (fun i => !decide (derOf (tk L i).t = 0)) (fun s => (stepR >>= fun _ => takeR L t_lpar >>= fun _ => nameR L >>= fun a =>
   (if 3 ≤ derOf (tk L s.i).t then takeR L t_dots >>= fun _ => nameR L else pure []) >>= fun b => takeR L t_rpar >>= fun _ => pure (derOf (tk L s.i).t, a, b)) s)
  (fun s => ((0, [], []), failR 4 s))
def fieldR : RM IT :=
 nameR L >>= fun w => takeR L t_colon >>= fun _ => kindR L 32 >>= fun t =>
 atR (isV L · t_eq) (guardR (0, [], []) (takeR L t_eq >>= fun _ => derivedR L)) (pure (0, [], [])) >>= fun d =>
 atR (isV L · w_where) (guardR (-1) (takeR L w_where >>= fun _ => exprR L 32)) (pure (-1)) >>= fun x =>
 takeR L t_semi >>= fun _ => pure ⟨w, t, d.1, d.2.1, d.2.2, x, 0, false, []⟩
def subsR : Nat → List SB → RM (List SB)
 | 0, l => pure l
 | n + 1, l => guardR l ((fun s => if namedV L s.i = true then roomR l.length s else ((), s)) >>= fun _ => nameR L >>= fun w => takeR L t_colon >>= fun _ => numberR L >>= fun b => takeR L t_semi >>= fun _ =>
   atR (namedV L ·) (subsR n (l ++ [⟨w, min b 1048576⟩])) (pure (l ++ [⟨w, min b 1048576⟩])))
def packR : RM IT :=
 takeR L w_pack >>= fun _ => fun s => match (if (tk L s.i).k = 0 then integerV (tk L s.i).t else none) with
  | none => ((⟨[], -1, 0, [], [], -1, 0, false, []⟩ : IT), failR 4 s)
  | some (z, lt) => (stepR >>= fun _ => takeR L t_lcur >>= fun _ => (fun s => subsR L (L.length - s.i + 1) [] s) >>= fun l => takeR L t_rcur >>= fun _ => pure (⟨[], -1, 0, [], [], -1, z, lt, l⟩ : IT)) s
def parsR : Nat → List (List UInt8) → RM (List (List UInt8))
 | 0, l => pure l
 | n + 1, l => guardR l (atR (isV L · t_comma) (takeR L t_comma >>= fun _ => (fun s => if namedV L s.i = true then roomR l.length s else ((), s)) >>= fun _ => nameR L >>= fun x => parsR n (l ++ [x])) (pure l))
def itemsR : Nat → List IT → RM (List IT)
 | 0, l => pure l
 | n + 1, l => guardR l (atR (fun i => isV L i w_pack || namedV L i) (roomR l.length >>= fun _ => atR (isV L · w_pack) (packR L) (fieldR L) >>= fun x => itemsR n (l ++ [x])) (pure l))
def recordR : RM RC :=
 takeR L w_struct >>= fun _ => nameR L >>= fun w =>
 atR (isV L · t_lpar) (guardR [] (takeR L t_lpar >>= fun _ => nameR L >>= fun x => (fun s => parsR L (L.length - s.i + 1) [x] s) >>= fun l => takeR L t_rpar >>= fun _ => pure l)) (pure []) >>= fun ps =>
 takeR L t_lcur >>= fun _ => (fun s => itemsR L (L.length - s.i + 1) [] s) >>= fun is => takeR L t_rcur >>= fun _ => pure ⟨w, ps, is⟩
def constR : RM CO := takeR L w_const >>= fun _ => nameR L >>= fun w => takeR L t_eq >>= fun _ => numberR L >>= fun n => takeR L t_semi >>= fun _ => pure ⟨w, n⟩
def wholeR : Nat → List CO → List RC → RM (List CO × List RC)
 | 0, cs, rs => pure (cs, rs)
 | n + 1, cs, rs => guardR (cs, rs) (atR (isV L · w_const) (roomR cs.length >>= fun _ => constR L >>= fun c => wholeR n (cs ++ [c]) rs)
  (atR (isV L · w_struct) (roomR rs.length >>= fun _ => recordR L >>= fun r => wholeR n cs (rs ++ [r]))
  (atR (fun i => decide ((tk L i).k = 3)) (pure (cs, rs)) (fun s => ((cs, rs), failR 4 s)))))
end
def emb (m : Nat) (s : PS) : RSt := ⟨s.i, 32 - (m : Int), 0, s.xs, s.ts⟩
structure Bad (L : List TokP) (m c i e : Nat) (st : RSt) : Prop where
 i : st.i = i
 e : st.err = e
 x : st.xs.length ≤ L.length + c
 t : st.ts.length ≤ L.length + c
 d1 : 32 - (m : Int) - c ≤ st.dep
 d2 : st.dep ≤ 32 - (m : Int)
structure Stay (d : Nat) (st st' : RSt) : Prop where
 i : st'.i = st.i
 e : st'.err = st.err
 x : st'.xs.length ≤ st.xs.length + d
 t : st'.ts.length ≤ st.ts.length + d
 d1 : st.dep - d ≤ st'.dep
 d2 : st'.dep ≤ st.dep
structure Sim (L : List TokP) (m : Nat) {α : Type} (x : PM α) (y : RM α) (a b c d : Nat) : Prop where
 up : Up L x a b
 ok : ∀ q s, SOk L (q + a) s → match x s with
  | .ok v t => y (emb m s) = (v, emb m t)
  | .err i e => Bad L m c i e (y (emb m s)).2
 bad : ∀ st, st.err ≠ 0 → Stay d st (y st).2
structure Sim0 (L : List TokP) (m : Nat) {α : Type} (x : PM α) (y : RM α) (a b c : Nat) : Prop where
 up : Up L x a b
 ok : ∀ q s, SOk L (q + a) s → match x s with
  | .ok v t => y (emb m s) = (v, emb m t)
  | .err i e => Bad L m c i e (y (emb m s)).2
section
variable {L : List TokP} {m : Nat}
theorem Sim.to0 {α : Type} {x : PM α} {y : RM α} {a b c d : Nat} (h : Sim L m x y a b c d) : Sim0 L m x y a b c := ⟨h.up, h.ok⟩
theorem Stay.rfl {st : RSt} {d : Nat} : Stay d st st := ⟨Eq.refl _, Eq.refl _, by omega, by omega, by omega, Int.le_refl _⟩
theorem Stay.trans {s1 s2 s3 : RSt} {d e f : Nat} (h : Stay d s1 s2) (h' : Stay e s2 s3) (hf : d + e ≤ f) : Stay f s1 s3 :=
 ⟨h'.i.trans h.i, h'.e.trans h.e, by have := h.x; have := h'.x; omega, by have := h.t; have := h'.t; omega, by have := h.d1; have := h'.d1; omega, by have := h.d2; have := h'.d2; omega⟩
theorem Stay.le {s1 s2 : RSt} {d e : Nat} (h : Stay d s1 s2) (hd : d ≤ e) : Stay e s1 s2 := h.trans (Stay.rfl (d := 0)) (by omega)
theorem Bad.stay {c d e i er : Nat} {st st' : RSt} (h : Bad L m c i er st) (h' : Stay d st st') (he : c + d ≤ e) : Bad L m e i er st' :=
 ⟨h'.i.trans h.i, h'.e.trans h.e, by have := h.x; have := h'.x; omega, by have := h.t; have := h'.t; omega, by have := h.d1; have := h'.d1; omega, by have := h.d2; have := h'.d2; omega⟩
theorem Sim.le {α : Type} {x : PM α} {y : RM α} {a b c d c' d' : Nat} (h : Sim L m x y a b c d) (hc : c ≤ c') (hd : d ≤ d') : Sim L m x y a b c' d' :=
 ⟨h.up, fun q s hs => by
  have := h.ok q s hs
  revert this
  cases x s with
  | ok v t => exact id
  | err i e => exact fun h => h.stay (Stay.rfl (d := 0)) (by omega), fun st hst => (h.bad st hst).le hd⟩
theorem Sim.less {α : Type} {x : PM α} {y : RM α} {a b c d : Nat} (h : Sim L m x y a b c d) {a' b' : Nat} (n : Nat) (ha : a + n ≤ a') (hb : b' ≤ b + n) : Sim L m x y a' b' c d :=
 ⟨h.up.less n ha hb, fun q s hs => h.ok (q + n) s (hs.less (by omega)), h.bad⟩
theorem Sim.and {α β : Type} {x : PM α} {y : RM α} {f : α → PM β} {g : α → RM β} {a b b' c d c' d' : Nat} (h : Sim L m x y a b c d) (hf : ∀ v, Sim L m (f v) (g v) b b' c' d') : Sim L m (x >>= f) (y >>= g) a b' (max (c + d') c') (d + d') :=
 ⟨h.up.and fun v => (hf v).up, fun q s hs => by
  have h1 := h.ok q s hs
  have hu := h.up s q hs
  show match PM.and x f s with
   | .ok v t => RM.and y g (emb m s) = (v, emb m t)
   | .err i e => Bad L m (max (c + d') c') i e (RM.and y g (emb m s)).2
  unfold PM.and RM.and
  revert h1 hu
  cases x s with
  | err i e =>
   intro h1 hu
   dsimp only at h1 hu ⊢
   exact h1.stay ((hf _).bad _ (by rw [h1.e]; omega)) (Nat.le_max_left _ _)
  | ok v t =>
   intro h1 hu
   dsimp only at h1 hu ⊢
   rw [h1]
   have h2 := (hf v).ok q t hu.1
   revert h2
   cases f v t with
   | ok w u => exact id
   | err i e => exact fun h2 => h2.stay (Stay.rfl (d := 0)) (Nat.le_max_right _ _), fun st hst => by
  show Stay _ st (g (y st).1 (y st).2).2
  have h1 := h.bad st hst
  exact h1.trans ((hf _).bad _ (by rw [h1.e]; exact hst)) (Nat.le_refl _)⟩
theorem Sim.seq {α β : Type} {x : PM α} {y : RM α} {f : α → PM β} {g : α → RM β} {a b b' c d c' d' C D : Nat} (h : Sim L m x y a b c d) (hf : ∀ v, Sim L m (f v) (g v) b b' c' d') (hC : max (c + d') c' ≤ C) (hD : d + d' ≤ D) : Sim L m (x >>= f) (y >>= g) a b' C D := (h.and hf).le hC hD
theorem Sim.pure {α : Type} (v : α) (a : Nat) : Sim L m (pure v) (pure v : RM α) a a 0 0 := ⟨Up.pure v a, fun _ _ _ => Eq.refl _, fun _ _ => Stay.rfl⟩
theorem Sim0.guard {α : Type} {x : PM α} {y : RM α} {a b c : Nat} (h : Sim0 L m x y a b c) (v : α) : Sim L m x (guardR v y) a b c 0 :=
 ⟨h.up, h.ok, fun st hst => by unfold guardR; rw [if_neg hst]; exact Stay.rfl⟩
theorem Sim.guard {α : Type} {x : PM α} {y : RM α} {a b c d : Nat} (h : Sim L m x y a b c d) (v : α) : Sim L m x (guardR v y) a b c 0 := h.to0.guard v
theorem Sim0.le {α : Type} {x : PM α} {y : RM α} {a b c c' : Nat} (h : Sim0 L m x y a b c) (hc : c ≤ c') : Sim0 L m x y a b c' :=
 ⟨h.up, fun q s hs => by
  have := h.ok q s hs
  revert this
  cases x s with
  | ok v t => exact id
  | err i e => exact fun h => h.stay (Stay.rfl (d := 0)) (by omega)⟩
theorem Sim0.look {α : Type} {f : Nat → PM α} {g : Nat → RM α} {a b c : Nat} (h : ∀ i, Sim0 L m (f i) (g i) a b c) : Sim0 L m (fun s => f s.i s) (fun s => g s.i s) a b c :=
 ⟨Up.look (f := fun s => f s.i) fun s => (h s.i).up, fun q s hs => (h s.i).ok q s hs⟩
theorem Sim0.at {α : Type} {p : Nat → Bool} {x y : PM α} {x' y' : RM α} {a b c : Nat} (hx : Sim0 L m x x' a b c) (hy : Sim0 L m y y' a b c) : Sim0 L m (atM p x y) (atR p x' y') a b c :=
 ⟨Up.at hx.up hy.up, fun q s hs => by
  unfold atM atR
  by_cases h : p s.i = true
  ·rw [if_pos h, if_pos (show p (emb m s).i = true from h)]; exact hx.ok q s hs
  ·rw [if_neg h, if_neg (show ¬ p (emb m s).i = true from h)]; exact hy.ok q s hs⟩
theorem Sim.look {α : Type} {f : Nat → PM α} {g : Nat → RM α} {a b c d : Nat} (h : ∀ i, Sim L m (f i) (g i) a b c d) : Sim L m (fun s => f s.i s) (fun s => g s.i s) a b c d :=
 ⟨Up.look (f := fun s => f s.i) fun s => (h s.i).up, fun q s hs => (h s.i).ok q s hs, fun st hst => (h st.i).bad st hst⟩
theorem Sim.at {α : Type} {p : Nat → Bool} {x y : PM α} {x' y' : RM α} {a b c d : Nat} (hx : Sim L m x x' a b c d) (hy : Sim L m y y' a b c d) : Sim L m (atM p x y) (atR p x' y') a b c d :=
 ⟨Up.at hx.up hy.up, fun q s hs => by
  unfold atM atR
  by_cases h : p s.i = true
  ·rw [if_pos h, if_pos (show p (emb m s).i = true from h)]; exact hx.ok q s hs
  ·rw [if_neg h, if_neg (show ¬ p (emb m s).i = true from h)]; exact hy.ok q s hs, fun st hst => by
  unfold atR
  by_cases h : p st.i = true
  ·rw [if_pos h]; exact hx.bad st hst
  ·rw [if_neg h]; exact hy.bad st hst⟩
theorem Sim.at2 {α : Type} {p : Nat → Bool} {x y : PM α} {x' y' : RM α} {a b c d c2 d2 C D : Nat} (hx : Sim L m x x' a b c d) (hy : Sim L m y y' a b c2 d2) (h1 : c ≤ C) (h2 : d ≤ D) (h3 : c2 ≤ C) (h4 : d2 ≤ D) : Sim L m (atM p x y) (atR p x' y') a b C D := (hx.le h1 h2).at (hy.le h3 h4)
theorem bad_here {s : PS} {q a e c : Nat} (hs : SOk L (q + a) s) : Bad L m c s.i e { emb m s with err := e } :=
 ⟨Eq.refl _, Eq.refl _, by show s.xs.length ≤ _; have := hs.x; have := hs.i; omega, by show s.ts.length ≤ _; have := hs.t; have := hs.i; omega, by show _ ≤ 32 - (m : Int); omega, Int.le_refl _⟩
theorem Sim.take (hL : TokOk L) (t : List UInt8) (a : Nat) : Sim L m (takeM L t) (takeR L t) a (a + 1) 0 0 :=
 ⟨Up.take hL t a, fun q s hs => by
  unfold takeM takeR guardR
  rw [if_pos (show (emb m s).err = 0 from rfl)]
  dsimp only
  by_cases h : isV L s.i t = true
  ·rw [if_pos h, if_pos (show isV L (emb m s).i t = true from h)]; exact rfl
  ·rw [if_neg h, if_neg (show ¬ isV L (emb m s).i t = true from h)]; exact bad_here hs, fun st hst => by unfold takeR guardR; rw [if_neg hst]; exact Stay.rfl⟩
theorem Sim.name (hL : TokOk L) (a : Nat) : Sim L m (nameM L) (nameR L) a (a + 1) 0 0 :=
 ⟨Up.name hL a, fun q s hs => by
  unfold nameM nameR guardR
  rw [if_pos (show (emb m s).err = 0 from rfl)]
  dsimp only
  by_cases h : namedV L s.i = true
  ·rw [if_pos h, if_pos (show namedV L (emb m s).i = true from h)]; exact rfl
  ·rw [if_neg h, if_neg (show ¬ namedV L (emb m s).i = true from h)]; exact bad_here hs, fun st hst => by unfold nameR guardR; rw [if_neg hst]; exact Stay.rfl⟩
theorem Sim.number (hL : TokOk L) (a : Nat) : Sim L m (numberM L) (numberR L) a (a + 1) 0 0 :=
 ⟨Up.number hL a, fun q s hs => by
  unfold numberM numberR guardR
  rw [if_pos (show (emb m s).err = 0 from rfl)]
  dsimp only
  by_cases h : (tk L s.i).k = 1
  ·rw [if_pos h, if_pos (show (tk L (emb m s).i).k = 1 from h)]; exact rfl
  ·rw [if_neg h, if_neg (show ¬ (tk L (emb m s).i).k = 1 from h)]; exact bad_here hs, fun st hst => by unfold numberR guardR; rw [if_neg hst]; exact Stay.rfl⟩
theorem failR_bad {e : Nat} {st : RSt} (h : st.err ≠ 0) : failR e st = st := if_neg h
theorem Sim.room (n a : Nat) : Sim L m (roomM n) (roomR n) a a 0 0 :=
 ⟨Up.room n a, fun q s hs => by
  unfold roomM roomR
  by_cases h : 64 ≤ n
  ·rw [if_pos h, if_pos h]; exact bad_here hs
  ·rw [if_neg h, if_neg h], fun st hst => by
  unfold roomR
  split
  ·rw [failR_bad hst]; exact Stay.rfl
  ·exact Stay.rfl⟩
theorem Sim.roomIf (p : Nat → Bool) (n a : Nat) : Sim L m (fun s => if p s.i = true then roomM n s else .ok () s) (fun s => if p s.i = true then roomR n s else ((), s)) a a 0 0 :=
 ⟨Up.roomIf p n a, fun q s hs => by
  by_cases h : p s.i = true
  ·rw [if_pos h, if_pos (show p (emb m s).i = true from h)]; exact (Sim.room n a).ok q s hs
  ·rw [if_neg h, if_neg (show ¬ p (emb m s).i = true from h)], fun st hst => by
  split
  ·exact (Sim.room (L := L) (m := m) n a).bad st hst
  ·exact Stay.rfl⟩
theorem stay_put {st : RSt} {x : EX} : Stay 1 st { st with xs := st.xs ++ [x] } := ⟨rfl, rfl, by show (st.xs ++ [x]).length ≤ _; rw [List.length_append]; exact Nat.le_refl _, by show st.ts.length ≤ _; omega, by show st.dep - _ ≤ st.dep; omega, Int.le_refl _⟩
theorem stay_lay {st : RSt} {x : TY} : Stay 1 st { st with ts := st.ts ++ [x] } := ⟨rfl, rfl, by show st.xs.length ≤ _; omega, by show (st.ts ++ [x]).length ≤ _; rw [List.length_append]; exact Nat.le_refl _, by show st.dep - _ ≤ st.dep; omega, Int.le_refl _⟩
theorem Sim.put (x : EX) (a : Nat) : Sim L m (putM x) (putR x) (a + 1) a 0 1 := ⟨Up.put x a, fun _ _ _ => rfl, fun st _ => stay_put⟩
theorem Sim.lay (x : TY) (a : Nat) : Sim L m (layM x) (layR x) (a + 1) a 0 1 := ⟨Up.lay x a, fun _ _ _ => rfl, fun st _ => stay_lay⟩
theorem Sim0.step {α : Type} (hL : TokOk L) {p : Nat → Bool} {f : Unit → PM α} {g : Unit → RM α} {y : PM α} {y' : RM α} {a b c : Nat} (hp : ∀ i, p i = true → (tk L i).k ≠ 3) (hx : Sim0 L m (f ()) (g ()) (a + 1) b c) (hy : Sim0 L m y y' a b c) :
  Sim0 L m (atM p (stepM >>= f) y) (atR p (stepR >>= g) y') a b c :=
 ⟨Up.step hL hp hx.up hy.up, fun q s hs => by
  unfold atM atR
  by_cases h : p s.i = true
  ·rw [if_pos h, if_pos (show p (emb m s).i = true from h)]
   exact hx.ok q _ (stepP_ok hL hs (hp _ h))
  ·rw [if_neg h, if_neg (show ¬ p (emb m s).i = true from h)]; exact hy.ok q s hs⟩
theorem Sim0.fail {α : Type} {e : Nat} (h0 : 0 < e) (h1 : e ≤ 10) (v : α) (a b : Nat) : Sim0 L m (failM e : PM α) (fun s => (v, failR e s)) a b 0 :=
 ⟨Up.fail h0 h1 a b, fun q s hs => bad_here hs⟩
theorem Sim0.fail4 {α : Type} (v : α) (a b : Nat) : Sim0 L m (failM 4 : PM α) (fun s => (v, { s with err := 4 })) a b 0 :=
 ⟨Up.fail (by decide) (by decide) a b, fun q s hs => bad_here hs⟩
theorem Sim0.atTake {α : Type} (hL : TokOk L) {t : List UInt8} {f : Unit → PM α} {g : Unit → RM α} {y : PM α} {y' : RM α} {a b c : Nat} (hx : Sim0 L m (f ()) (g ()) (a + 1) b c) (hy : Sim0 L m y y' a b c) :
  Sim0 L m (atM (isV L · t) (stepM >>= f) y) (atR (isV L · t) (takeR L t >>= g) y') a b c :=
 ⟨Up.step hL (fun i h => isV_k h) hx.up hy.up, fun q s hs => by
  unfold atM atR
  by_cases h : isV L s.i t = true
  ·rw [if_pos h, if_pos (show isV L (emb m s).i t = true from h)]
   have e : (takeR L t >>= g) (emb m s) = g () (emb m { s with i := s.i + 1 }) := rand (by
    unfold takeR guardR
    rw [if_pos (show (emb m s).err = 0 from rfl)]
    dsimp only
    rw [if_pos (show isV L (emb m s).i t = true from h)]
    rfl)
   rw [e]
   exact hx.ok q _ (stepP_ok hL hs (isV_k h))
  ·rw [if_neg h, if_neg (show ¬ isV L (emb m s).i t = true from h)]; exact hy.ok q s hs⟩
theorem Sim.atTake {α : Type} (hL : TokOk L) {t : List UInt8} {f : Unit → PM α} {g : Unit → RM α} {y : PM α} {y' : RM α} {a b c d : Nat} (hx : Sim L m (f ()) (g ()) (a + 1) b c d) (hy : Sim L m y y' a b c d) :
  Sim L m (atM (isV L · t) (stepM >>= f) y) (atR (isV L · t) (takeR L t >>= g) y') a b c d :=
 ⟨(hx.to0.atTake hL hy.to0).up, (hx.to0.atTake hL hy.to0).ok, fun st hst => by
  unfold atR
  split
  ·have e : (takeR L t >>= g) st = g () st := rand (by unfold takeR guardR; rw [if_neg hst])
   rw [e]
   exact hx.bad st hst
  ·exact hy.bad st hst⟩
theorem Sim.atRoom {α : Type} (hL : TokOk L) {t : List UInt8} {n : Nat} {f : Unit → PM α} {g : Unit → RM α} {y : PM α} {y' : RM α} {a b c d : Nat} (hx : Sim L m (f ()) (g ()) (a + 1) b c d) (hy : Sim L m y y' a b c d) (hd : d ≤ c) :
  Sim L m (atM (isV L · t) (roomM n >>= fun _ => stepM >>= f) y) (atR (isV L · t) (roomR n >>= fun _ => takeR L t >>= g) y') a b c d :=
 ⟨Up.roomStep hL (fun i h => isV_k h) hx.up hy.up, fun q s hs => by
  have h0 := (Sim.atTake (t := t) hL hx hy).ok q s hs
  unfold atM atR at h0 ⊢
  by_cases h : isV L s.i t = true
  ·rw [if_pos h, if_pos (show isV L (emb m s).i t = true from h)] at h0 ⊢
   by_cases h64 : 64 ≤ n
   ·rw [and_err (i := s.i) (e := 10) (by unfold roomM; rw [if_pos h64]; rfl)]
    have e : (roomR n >>= fun _ => takeR L t >>= g) (emb m s) = g () { emb m s with err := 10 } := (rand (v := ()) (s' := { emb m s with err := 10 }) (by unfold roomR; rw [if_pos h64]; rfl)).trans (rand (by unfold takeR guardR; rw [if_neg (by show ¬ (10 = 0); decide)]))
    rw [e]
    exact (bad_here (c := 0) hs).stay (hx.bad _ (by show 10 ≠ 0; decide)) (by omega)
   ·rw [and_ok (v := ()) (s' := s) (by unfold roomM; rw [if_neg h64]), rand (v := ()) (s' := emb m s) (by unfold roomR; rw [if_neg h64])]
    exact h0
  ·rw [if_neg h, if_neg (show ¬ isV L (emb m s).i t = true from h)] at h0 ⊢; exact h0, fun st hst => by
  unfold atR
  split
  ·have e : (roomR n >>= fun _ => takeR L t >>= g) st = g () st := (rand (v := ()) (s' := st) (by unfold roomR; split; rw [failR_bad hst]; rfl)).trans (rand (by unfold takeR guardR; rw [if_neg hst]))
   rw [e]
   exact hx.bad st hst
  ·exact hy.bad st hst⟩
theorem pm_assoc {α β γ : Type} (x : PM α) (g : α → PM β) (f : β → PM γ) : (x >>= fun v => g v >>= f) = ((x >>= g) >>= f) := by
 funext s
 show PM.and x (fun v => PM.and (g v) f) s = PM.and (PM.and x g) f s
 unfold PM.and
 cases x s <;> rfl
theorem emb_leave (m : Nat) (s : PS) : ({ emb m s with dep := (emb m s).dep - 1 } : RSt) = emb (m + 1) s := by
 show (⟨s.i, 32 - (m : Int) - 1, 0, s.xs, s.ts⟩ : RSt) = ⟨s.i, 32 - ((m + 1 : Nat) : Int), 0, s.xs, s.ts⟩
 rw [show 32 - (m : Int) - 1 = 32 - ((m + 1 : Nat) : Int) by omega]
theorem Sim.deep {α : Type} {p : Nat → Bool} {x : PM α} {y : RM α} {a b c : Nat} (h : ∀ m', m = m' + 1 → Sim L m' x y a b c 0) (h0 : ∀ st, st.err ≠ 0 → Stay 0 st (y st).2) (hb : m = 0 → b ≤ a) (hc : 1 ≤ c) :
  Sim L m ((fun s => enterM m (p s.i) s) >>= fun _ => x) (deepR p y) a b c 1 := by
 have bd : ∀ st, st.err ≠ 0 → Stay 1 st (deepR p y st).2 := fun st hst => by
  have e : deepR p y st = ((y st).1, { (y st).2 with dep := (y st).2.dep - 1 }) := by
   unfold deepR
   show RM.and _ _ st = _
   unfold RM.and
   have : (fun s : RSt => enterR (p s.i) s) st = ((), st) := if_neg hst
   rw [this]
   rfl
  rw [e]
  have h1 := h0 st hst
  exact ⟨h1.i, h1.e, by have := h1.x; show (y st).2.xs.length ≤ _; omega, by have := h1.t; show (y st).2.ts.length ≤ _; omega, by have := h1.d1; show _ ≤ (y st).2.dep - 1; omega, by have := h1.d2; show (y st).2.dep - 1 ≤ _; omega⟩
 have fail : ∀ (s : PS) (e q a : Nat), e ≠ 0 → SOk L (q + a) s → enterR (p s.i) (emb m s) = ((), { emb m s with err := e }) → Bad L m c s.i e (deepR p y (emb m s)).2 := fun s e q a he hs hE => by
  have e1 : deepR p y (emb m s) = ((y { emb m s with err := e }).1, { (y { emb m s with err := e }).2 with dep := (y { emb m s with err := e }).2.dep - 1 }) := by
   unfold deepR
   show RM.and _ _ _ = _
   unfold RM.and
   have : (fun s : RSt => enterR (p s.i) s) (emb m s) = ((), { emb m s with err := e }) := hE
   rw [this]
   rfl
  rw [e1]
  have h1 := h0 { emb m s with err := e } he
  have h2 : Bad L m 0 s.i e { emb m s with err := e } := bad_here hs
  have h3 := h2.stay h1 (Nat.le_refl _)
  exact ⟨h3.i, h3.e, by have := h3.x; show (y { emb m s with err := e }).2.xs.length ≤ _; omega, by have := h3.t; show (y { emb m s with err := e }).2.ts.length ≤ _; omega, by have := h3.d1; show _ ≤ (y { emb m s with err := e }).2.dep - 1; omega, by have := h3.d2; show (y { emb m s with err := e }).2.dep - 1 ≤ _; omega⟩
 cases m with
 | zero =>
  have hbad : ∀ s, ((fun s : PS => enterM 0 (p s.i) s) >>= fun _ => x) s = .err s.i (if p s.i = true then 8 else 4) := fun s => by
   refine and_err ?_
   show enterM 0 (p s.i) s = _
   unfold enterM
   cases p s.i <;> rfl
  have hb := hb rfl
  refine ⟨fun s q hs => ?_, fun q s hs => ?_, bd⟩
  ·rw [hbad]
   dsimp only
   refine ⟨Nat.le_refl _, hs.i, ?_, ?_⟩ <;> split <;> decide
  ·rw [hbad]
   dsimp only
   refine fail s _ q a (by split <;> decide) hs ?_
   unfold enterR guardR
   rw [if_pos (show (emb 0 s).err = 0 from rfl)]
   cases p s.i
   ·rfl
   ·exact if_neg (by decide) |>.trans (if_pos (show (32 : Int) ≤ 32 - ((0 : Nat) : Int) by omega))
 | succ m' =>
  have hx := h m' rfl
  refine ⟨(Up.look (f := fun s => enterM (m' + 1) (p s.i)) fun s => Up.enter _ _ _).and fun _ => hx.up, fun q s hs => ?_, bd⟩
  rcases hp : p s.i with _ | _
  ·have e1 : ((fun s : PS => enterM (m' + 1) (p s.i) s) >>= fun _ => x) s = .err s.i 4 := and_err (by show enterM (m' + 1) (p s.i) s = _; rw [hp]; rfl)
   rw [e1]
   dsimp only
   refine fail s 4 q a (by decide) hs ?_
   unfold enterR guardR
   rw [if_pos (show (emb (m' + 1) s).err = 0 from rfl), hp]
   rfl
  ·have e1 : ((fun s : PS => enterM (m' + 1) (p s.i) s) >>= fun _ => x) s = x s := and_ok (by show enterM (m' + 1) (p s.i) s = _; rw [hp]; rfl)
   rw [e1]
   have e2 : enterR (p (emb (m' + 1) s).i) (emb (m' + 1) s) = ((), emb m' s) := by
    unfold enterR guardR
    have hp' : p (emb (m' + 1) s).i = true := hp
    have hd : ¬ (32 : Int) ≤ (emb (m' + 1) s).dep := by show ¬ (32 : Int) ≤ 32 - ((m' + 1 : Nat) : Int); omega
    rw [if_pos (show (emb (m' + 1) s).err = 0 from rfl)]
    dsimp only
    rw [hp', if_neg (by decide), if_neg hd]
    show (((), (⟨s.i, 32 - ((m' + 1 : Nat) : Int) + 1, 0, s.xs, s.ts⟩ : RSt)) : Unit × RSt) = ((), ⟨s.i, 32 - (m' : Int), 0, s.xs, s.ts⟩)
    rw [show 32 - ((m' + 1 : Nat) : Int) + 1 = 32 - (m' : Int) by omega]
   have e3 : deepR p y (emb (m' + 1) s) = ((y (emb m' s)).1, { (y (emb m' s)).2 with dep := (y (emb m' s)).2.dep - 1 }) := by
    unfold deepR
    show RM.and _ _ _ = _
    unfold RM.and
    have : (fun s : RSt => enterR (p s.i) s) (emb (m' + 1) s) = ((), emb m' s) := e2
    rw [this]
    rfl
   rw [e3]
   have h1 := hx.ok q s hs
   revert h1
   cases x s with
   | ok v t =>
    intro h1
    dsimp only at h1 ⊢
    rw [h1, ← emb_leave]
   | err i e =>
    intro h1
    dsimp only at h1 ⊢
    exact ⟨h1.i, h1.e, h1.x, h1.t, by have := h1.d1; show _ ≤ (y (emb m' s)).2.dep - 1; omega, by have := h1.d2; show (y (emb m' s)).2.dep - 1 ≤ _; omega⟩
theorem Sim.deepK {α β : Type} {p : Nat → Bool} {x : PM α} {y : RM α} {f : α → PM β} {g : α → RM β} {a b b' c c' d' C D : Nat} (h : ∀ m', m = m' + 1 → Sim L m' x y a b c 0) (h0 : ∀ st, st.err ≠ 0 → Stay 0 st (y st).2) (hb : m = 0 → b ≤ a) (hc : 1 ≤ c)
  (hf : ∀ v, Sim L m (f v) (g v) b b' c' d') (hC : c + d' ≤ C) (hC2 : c' ≤ C) (hD : 1 + d' ≤ D) : Sim L m ((fun s => enterM m (p s.i) s) >>= fun _ => x >>= f) (deepR p y >>= g) a b' C D := by
 have h1 := ((Sim.deep (p := p) h h0 hb hc).and hf).le (c' := C) (d' := D) (by omega) hD
 exact (congrArg (fun z => Sim L m z (deepR p y >>= g) a b' C D) (pm_assoc (fun s => enterM m (p s.i) s : PM Unit) (fun _ => x) f)).mpr h1
end
end Go.Proofs.YtoingpafcodojaaGreatDoor

namespace Go.Proofs.YtoingpafcodojaaGreatDoor

section
variable {L : List TokP} {m : Nat}
theorem stay_guard {α : Type} {v : α} {y : RM α} (st : RSt) (h : st.err ≠ 0) : Stay 0 st (guardR v y st).2 := by unfold guardR; rw [if_neg h]; exact Stay.rfl
theorem Sim.atTakeG {α : Type} (hL : TokOk L) {t : List UInt8} {f : Unit → PM α} {g : Unit → RM α} {y : PM α} {y' : RM α} {a b c d : Nat} {v : α} (hx : Sim0 L m (f ()) (g ()) (a + 1) b c) (hy : Sim L m y y' a b c d) :
  Sim L m (atM (isV L · t) (stepM >>= f) y) (atR (isV L · t) (guardR v (takeR L t >>= g)) y') a b c d :=
 ⟨(hx.atTake (t := t) hL hy.to0).up, fun q s hs => (hx.atTake (t := t) hL hy.to0).ok q s hs, fun st hst => by
  unfold atR
  split
  ·exact (stay_guard st hst).le (Nat.zero_le _)
  ·exact hy.bad st hst⟩
theorem sim_un (hL : TokOk L) {un ex : PM Int} {un' ex' : RM Int} {c : Nat} (hc : 1 ≤ c) (h1 : ∀ m', m = m' + 1 → Sim L m' un un' 0 0 c 0) (h2 : ∀ m', m = m' + 1 → Sim L m' ex ex' 0 0 c 0)
  (b1 : ∀ st, st.err ≠ 0 → Stay 0 st (un' st).2) (b2 : ∀ st, st.err ≠ 0 → Stay 0 st (ex' st).2) : Sim L m (unF L m un ex) (unR L un' ex') 0 0 (c + 1) 0 := by
 unfold unF unR
 refine Sim.guard (d := 2) (Sim.atTake hL ?_ (Sim.atTake hL ?_ (Sim.at ?_ ?_))) 0
 ·exact Sim.deepK (a := 1) (b := 1) (c := c) (fun m' e => (h1 m' e).less 1 (by omega) (by omega)) b1 (fun _ => by omega) hc (fun k => Sim.put _ 0) (by omega) (by omega) (by omega)
 ·exact Sim.deepK (a := 1) (b := 1) (c := c) (fun m' e => (h2 m' e).less 1 (by omega) (by omega)) b2 (fun _ => by omega) hc (fun k => (Sim.take hL _ 1).seq (C := 0) (D := 0) (fun _ => (Sim.pure k 2).less (b' := 0) 0 (by omega) (by omega)) (by omega) (by omega)) (by omega) (by omega) (by omega)
 ·exact (Sim.name hL 0).seq (fun w => Sim.put _ 0) (by omega) (by omega)
 ·exact (Sim.number hL 0).seq (fun w => Sim.put _ 0) (by omega) (by omega)
theorem opAt_k {lv i : Nat} (h : opAt L lv i = true) : (tk L i).k ≠ 3 := by
 unfold opAt at h
 rw [Bool.and_eq_true] at h
 have := of_decide_eq_true h.1
 omega
theorem sim_line (hL : TokOk L) (lv : Nat) {x : PM Int} {x' : RM Int} {c : Nat} (hx : Sim L m x x' 0 0 c 0) : ∀ n left, Sim L m (lineN L lv x n left) (lineNR L lv x' n left) 0 0 (c + 1) 0
 | 0, left => (Sim.pure left 0).le (by omega) (by omega)
 | n + 1, left => by
  refine Sim0.guard (Sim0.look (f := fun i => atM (opAt L lv) (stepM >>= fun _ => x >>= fun right => putM ⟨3, (tk L i).t, 0, [], [left, right]⟩ >>= fun k => lineN L lv x n k) (pure left))
   (g := fun i => atR (opAt L lv) (stepR >>= fun _ => x' >>= fun right => putR ⟨3, (tk L i).t, 0, [], [left, right]⟩ >>= fun k => lineNR L lv x' n k) (pure left)) fun i => ?_) left
  refine Sim0.step hL (fun i h => opAt_k h) ?_ ((Sim.pure left 0).le (by omega) (Nat.le_refl _)).to0
  exact ((hx.less 1 (by omega) (Nat.le_refl _)).seq (C := c + 1) (D := 1) (fun r => (Sim.put _ 0).seq (C := c + 1) (D := 1) (fun k => sim_line hL lv hx n k) (by omega) (by omega)) (by omega) (by omega)).to0
theorem sim_lineJ (hL : TokOk L) {un : PM Int} {un' : RM Int} {c : Nat} (hx : Sim L m un un' 0 0 c 0) : ∀ j, Sim L m (lineJ L un j) (lineJR L un' j) 0 0 (c + j) 0
 | 0 => hx.guard 0
 | j + 1 => ((sim_lineJ hL hx j).seq (C := c + (j + 1)) (D := 0) (fun left => Sim.look (f := fun i => lineN L (8 - j) (lineJ L un j) (L.length - i + 1) left) (g := fun i => lineNR L (8 - j) (lineJR L un' j) (L.length - i + 1) left)
   fun i => sim_line hL (8 - j) (sim_lineJ hL hx j) (L.length - i + 1) left) (by omega) (by omega)).guard 0
theorem stay_lineJ {un' : RM Int} : ∀ j st, st.err ≠ 0 → Stay 0 st (lineJR L un' j st).2
 | 0, st, h => stay_guard st h
 | j + 1, st, h => stay_guard st h
theorem stay_un {un' ex' : RM Int} (st : RSt) (h : st.err ≠ 0) : Stay 0 st (unR L un' ex' st).2 := stay_guard st h
theorem stay_unRm : ∀ m st, st.err ≠ 0 → Stay 0 st (unRm L m st).2
 | 0, st, h => stay_guard st h
 | m + 1, st, h => stay_guard st h
theorem sim_unM (hL : TokOk L) : ∀ m, Sim L m (unM L m) (unRm L m) 0 0 (2 + 9 * m) 0
 | 0 => sim_un hL (c := 1) (Nat.le_refl _) (fun _ h => by omega) (fun _ h => by omega) (fun _ _ => Stay.rfl) (fun _ _ => Stay.rfl)
 | m + 1 => (sim_un hL (c := 10 + 9 * m) (by omega) (fun m' h => by
    obtain rfl : m = m' := by omega
    exact (sim_unM hL m).le (by omega) (Nat.le_refl _)) (fun m' h => by
    obtain rfl : m = m' := by omega
    exact (sim_lineJ hL (sim_unM hL m) 8).le (by omega) (Nat.le_refl _)) (stay_unRm m) (stay_lineJ 8)).le (by omega) (Nat.le_refl _)
theorem sim_expr (hL : TokOk L) (m a : Nat) : Sim L m (exprM L m) (exprR L m) a a (10 + 9 * m) 0 := ((sim_lineJ hL (sim_unM hL m) 8).less a (by omega) (by omega)).le (by omega) (Nat.le_refl _)
theorem sim_bracket (hL : TokOk L) (m a : Nat) : Sim L m (bracketM L m) (bracketR L m) a (a + 2) (10 + 9 * m) 0 :=
 (Sim.take hL _ a).seq (fun _ => (sim_expr hL m _).seq (C := 10 + 9 * m) (D := 0) (fun k => (Sim.take hL _ _).seq (C := 0) (D := 0) (fun _ => Sim.pure _ _) (by omega) (by omega)) (by omega) (by omega)) (by omega) (by omega)
theorem sim_array (hL : TokOk L) (m : Nat) (t : TY) : Sim L m (arrayM L m t) (arrayR L m t) 1 0 (11 + 9 * m) 1 :=
 (Sim.lay t 0).seq (fun k => Sim.at (c := 11 + 9 * m) (d := 0) (((sim_bracket hL m 0).seq (C := 11 + 9 * m) (D := 1) (fun x => (Sim.lay _ 0).less 1 (Nat.le_refl _) (by omega)) (by omega) (by omega)).guard k) ((Sim.pure k 0).le (by omega) (by omega))) (by omega) (by omega)
theorem sim_args (hL : TokOk L) (m : Nat) : ∀ n l, Sim L m (argsN L m n l) (argsR L m n l) 0 0 (10 + 9 * m) 0
 | 0, l => (Sim.pure l 0).le (by omega) (by omega)
 | n + 1, l => (Sim.atTake hL (c := 10 + 9 * m) (d := 0) ((Sim.roomIf (beginsV L ·) l.length 1).seq (C := 10 + 9 * m) (D := 0) (fun _ => (sim_expr hL m 1).seq (C := 10 + 9 * m) (D := 0) (fun x => (sim_args hL m n (l ++ [x])).less (a' := 1) (b' := 0) 0 (by omega) (Nat.le_refl _)) (by omega) (by omega)) (by omega) (by omega)) ((Sim.pure l 0).le (by omega) (by omega))).guard l
theorem sim_ref (hL : TokOk L) (m : Nat) : Sim L m (refM L m) (refR L m) 0 1 (10 + 9 * m) 0 := by
 unfold refM refR
 refine (Sim.name hL 0).seq (C := 10 + 9 * m) (D := 0) (c' := 10 + 9 * m) (d' := 0) (fun w => Sim.atTake hL ?_ ((Sim.pure _ 1).le (by omega) (by omega))) (by omega) (by omega)
 have h1 : Sim L m (exprM L m >>= fun x => (fun s => argsN L m (L.length - s.i + 1) [x] s : PM (List Int))) (guardR [] (exprR L m >>= fun x => (fun s => argsR L m (L.length - s.i + 1) [x] s : RM (List Int)))) 2 2 (10 + 9 * m) 0 :=
  ((sim_expr hL m 2).seq (C := 10 + 9 * m) (D := 0) (fun x => Sim.look (f := fun i => argsN L m (L.length - i + 1) [x]) (g := fun i => argsR L m (L.length - i + 1) [x]) fun i => (sim_args hL m _ [x]).less 2 (by omega) (by omega)) (by omega) (by omega)).guard []
 have h2 := h1.seq (C := 10 + 9 * m) (D := 0) (f := fun l => takeM L t_rpar >>= fun _ => pure { tyP 10 with nm := w, args := l }) (g := fun l => takeR L t_rpar >>= fun _ => pure { tyP 10 with nm := w, args := l })
  (fun l => (Sim.take hL t_rpar 2).seq (C := 0) (D := 0) (fun _ => (Sim.pure _ 3).less (b' := 1) 0 (Nat.le_refl _) (by omega)) (by omega) (by omega)) (by omega) (by omega)
 exact (congrArg (fun z => Sim L m z _ 2 1 (10 + 9 * m) 0) (pm_assoc (exprM L m) (fun x => (fun s => argsN L m (L.length - s.i + 1) [x] s : PM (List Int))) fun l => takeM L t_rpar >>= fun _ => pure { tyP 10 with nm := w, args := l })).mpr h2
section
variable {kd : PM Int} {kd' : RM Int} {c : Nat}
theorem sim_inner (h : ∀ m', m = m' + 1 → Sim L m' kd kd' 0 0 c 0) (h0 : ∀ st, st.err ≠ 0 → Stay 0 st (kd' st).2) (hc : 1 ≤ c) (a : Nat) : Sim L m (innerM L m kd) (innerR L kd') a a c 1 :=
 Sim.deep (fun m' e => (h m' e).less a (by omega) (by omega)) h0 (fun _ => Nat.le_refl _) hc
theorem sim_cases (hL : TokOk L) (h : ∀ m', m = m' + 1 → Sim L m' kd kd' 0 0 c 0) (h0 : ∀ st, st.err ≠ 0 → Stay 0 st (kd' st).2) (hc : 1 ≤ c) : ∀ n l, Sim L m (casesN L m kd n l) (casesR L kd' n l) 0 0 c 0
 | 0, l => (Sim.pure l 0).le (by omega) (by omega)
 | n + 1, l => (Sim.atRoom hL (c := c) (d := 1) ((Sim.number hL 1).seq (C := c) (D := 1) (fun x => (Sim.take hL t_colon _).seq (C := c) (D := 1) (fun _ => (sim_inner h h0 hc _).seq (C := c) (D := 1) (fun k => (Sim.take hL t_semi _).seq (C := c) (D := 0) (fun _ => (sim_cases hL h h0 hc n (l ++ [⟨x, k⟩])).less (b' := 0) 0 (by omega) (Nat.le_refl _)) (by omega) (by omega)) (by omega) (by omega)) (by omega) (by omega)) (by omega) (by omega)) ((Sim.pure l 0).le (by omega) (by omega)) hc).guard l
theorem sim_choice (hL : TokOk L) (h : ∀ m', m = m' + 1 → Sim L m' kd kd' 0 0 c 0) (h0 : ∀ st, st.err ≠ 0 → Stay 0 st (kd' st).2) (hc : 11 + 9 * m ≤ c + 1) (a : Nat) : Sim L m (choiceM L m kd) (choiceR L m kd') a a (c + 1) 1 := by
 unfold choiceM choiceR
 exact (Sim.take hL _ a).seq (c' := c + 1) (d' := 1) (fun _ => (sim_expr hL m _).seq (C := c + 1) (D := 1) (c' := c + 1) (d' := 1) (fun x => (Sim.take hL _ _).seq (C := c + 1) (D := 1) (c' := c + 1) (d' := 1) (fun _ => (Sim.take hL _ _).seq (C := c + 1) (D := 1) (c' := c + 1) (d' := 1) (fun _ =>
  (Sim.look (f := fun i => casesN L m kd (L.length - i + 1) []) (g := fun i => casesR L kd' (L.length - i + 1) []) fun i => (sim_cases hL h h0 (by omega) _ []).less (a' := a + 3) (b' := a + 3) (a + 3) (by omega) (by omega)).seq (C := c + 1) (D := 1) (c' := c + 1) (d' := 1) (fun cs =>
  (Sim.atTakeG hL (a := a + 3) (b := a + 3) (c := c) (d := 0) ((Sim.take hL _ _).seq (C := c) (D := 1) (fun _ => (sim_inner h h0 (by omega) _).seq (C := c) (D := 1) (fun k => (Sim.take hL _ _).seq (C := 0) (D := 0) (fun _ => (Sim.pure k _).less (b' := a + 3) 0 (Nat.le_refl _) (by omega)) (by omega) (by omega)) (by omega) (by omega)) (by omega) (by omega)).to0
   ((Sim.pure _ _).le (by omega) (by omega))).seq (C := c + 1) (D := 1) (c' := 1) (d' := 1) (fun k => (Sim.take hL _ _).seq (C := 1) (D := 1) (fun _ => (Sim.lay _ a).less 3 (by omega) (by omega)) (by omega) (by omega)) (by omega) (by omega)) (by omega) (by omega)) (by omega) (by omega)) (by omega) (by omega)) (by omega) (by omega)) (by omega) (by omega)
theorem sim_word (hL : TokOk L) (h : ∀ m', m = m' + 1 → Sim L m' kd kd' 0 0 c 0) (h0 : ∀ st, st.err ≠ 0 → Stay 0 st (kd' st).2) (hc : 1 ≤ c) (C : Nat) (hC : c + 1 ≤ C) (hC2 : 12 + 9 * m ≤ C) (w : List UInt8) : Sim L m (wordM L m kd w) (wordR L m kd' w) 1 0 C 2 := by
 unfold wordM wordR
 cases hsz : sizedV w with
 | some k =>
  dsimp only
  refine (sim_bracket hL m _).seq (C := C) (D := 2) (c' := c + 1) (d' := 2) (fun x => ?_) (by omega) (by omega)
  by_cases hk : k = 7 ∨ k = 8
  ·rw [if_pos hk, if_pos hk]; exact (sim_inner h h0 hc _).seq (fun i => (Sim.lay _ 0).less 2 (by omega) (by omega)) (by omega) (by omega)
  ·rw [if_neg hk, if_neg hk]; exact (Sim.pure _ _).seq (fun i => (Sim.lay _ 0).less 2 (by omega) (by omega)) (by omega) (by omega)
 | none =>
  dsimp only
  by_cases h1 : w = w_rest
  ·rw [if_pos h1, if_pos h1]; exact (sim_inner h h0 hc _).seq (fun i => Sim.lay _ 0) (by omega) (by omega)
  rw [if_neg h1, if_neg h1]
  by_cases h2 : w = w_tail
  ·rw [if_pos h2, if_pos h2]; exact (Sim.lay _ 0).le (by omega) (by omega)
  rw [if_neg h2, if_neg h2]
  by_cases h3 : w = w_none
  ·rw [if_pos h3, if_pos h3]; exact (Sim.lay _ 0).le (by omega) (by omega)
  rw [if_neg h3, if_neg h3]
  by_cases h4 : w = w_switch
  ·rw [if_pos h4, if_pos h4]
   obtain ⟨c1, hc1, hc2⟩ : ∃ c1, c ≤ c1 ∧ c1 + 1 = C := ⟨C - 1, by omega, by omega⟩
   exact ((sim_choice hL (c := c1) (fun m' e => (h m' e).le hc1 (Nat.le_refl _)) h0 (by omega) 0).less (a' := 1) (b' := 0) 0 (by omega) (by omega)).le (by omega) (by omega)
  rw [if_neg h4, if_neg h4]
  exact (sim_array hL m _).le (by omega) (by omega)
theorem sim_kindF (hL : TokOk L) (h : ∀ m', m = m' + 1 → Sim L m' kd kd' 0 0 c 0) (h0 : ∀ st, st.err ≠ 0 → Stay 0 st (kd' st).2) (hc : 1 ≤ c) (C : Nat) (hC : c + 1 ≤ C) (hC2 : 12 + 9 * m ≤ C) : Sim L m (kindF L m kd) (kindFR L m kd') 0 0 C 0 := by
 unfold kindF kindFR
 refine Sim0.guard (Sim0.at ((sim_ref hL m).seq (C := C) (D := 1) (fun t => sim_array hL m t) (by omega) (by omega)).to0 (Sim0.look (f := fun i => atM (startsV L ·) (stepM >>= fun _ => wordM L m kd (tk L i).t) (failM 4))
  (g := fun i => atR (startsV L ·) (stepR >>= fun _ => wordR L m kd' (tk L i).t) (fun s => (0, { s with err := 4 }))) fun i => ?_)) 0
 exact Sim0.step hL (fun i h => startsV_k h) (sim_word hL h h0 hc C hC hC2 _).to0 ((Sim0.fail4 0 0 0).le (by omega))
end
theorem stay_kind : ∀ m st, st.err ≠ 0 → Stay 0 st (kindR L m st).2
 | 0, st, h => stay_guard st h
 | m + 1, st, h => stay_guard st h
theorem sim_kind (hL : TokOk L) : ∀ m, Sim L m (kindM L m) (kindR L m) 0 0 (12 + 9 * m) 0
 | 0 => sim_kindF hL (c := 1) (fun _ h => by omega) (fun _ _ => Stay.rfl) (Nat.le_refl _) _ (by omega) (by omega)
 | m + 1 => sim_kindF hL (c := 12 + 9 * m) (fun m' h => by
   obtain rfl : m = m' := by omega
   exact sim_kind hL m) (stay_kind m) (by omega) _ (by omega) (by omega)
theorem Sim0.less {α : Type} {x : PM α} {y : RM α} {a b c : Nat} (h : Sim0 L m x y a b c) {a' b' : Nat} (n : Nat) (ha : a + n ≤ a') (hb : b' ≤ b + n) : Sim0 L m x y a' b' c :=
 ⟨h.up.less n ha hb, fun q s hs => h.ok (q + n) s (hs.less (by omega))⟩
theorem Sim0.seq {α β : Type} {x : PM α} {y : RM α} {f : α → PM β} {g : α → RM β} {a b b' c d c' d' C : Nat} (h : Sim L m x y a b c d) (hf : ∀ v, Sim L m (f v) (g v) b b' c' d') (hC : max (c + d') c' ≤ C) : Sim0 L m (x >>= f) (y >>= g) a b' C := (h.seq hf hC (Nat.le_refl _)).to0
def EndE (L : List TokP) : Prop := ∀ i, (tk L i).k = 3 → (tk L i).t = []
theorem sim_derived (hL : TokOk L) (hE : EndE L) (a : Nat) : Sim0 L m (derivedM L) (derivedR L) a a 0 := by
 unfold derivedM derivedR
 have hp : (fun i => !decide ((tk L i).k = 3) && !decide (derOf (tk L i).t = 0)) = fun i => !decide (derOf (tk L i).t = 0) := by
  funext i
  by_cases h : (tk L i).k = 3
  ·rw [hE i h]; simp [derOf]
  ·rw [decide_eq_false h]; rfl
 rw [hp]
 refine Sim0.look (f := fun i => atM (fun i => !decide (derOf (tk L i).t = 0)) (stepM >>= fun _ => takeM L t_lpar >>= fun _ => nameM L >>= fun a =>
   (if 3 ≤ derOf (tk L i).t then takeM L t_dots >>= fun _ => nameM L else pure []) >>= fun b => takeM L t_rpar >>= fun _ => pure (derOf (tk L i).t, a, b)) (failM 4))
  (g := fun i => atR (fun i => !decide (derOf (tk L i).t = 0)) (stepR >>= fun _ => takeR L t_lpar >>= fun _ => nameR L >>= fun a =>
   (if 3 ≤ derOf (tk L i).t then takeR L t_dots >>= fun _ => nameR L else pure []) >>= fun b => takeR L t_rpar >>= fun _ => pure (derOf (tk L i).t, a, b)) (fun s => ((0, [], []), failR 4 s))) fun i => ?_
 refine Sim0.step hL (fun i h => ?_) ?_ (Sim0.fail (by decide) (by decide) _ _ _)
 ·intro h3
  rw [hE i h3] at h
  simp [derOf] at h
 ·refine Sim0.seq (d' := 0) (c' := 0) (Sim.take hL _ _) (fun _ => (Sim.name hL _).seq (c' := 0) (d' := 0) (fun w => ?_) (by omega) (by omega)) (by omega)
  by_cases hd : 3 ≤ derOf (tk L i).t
  ·rw [if_pos hd, if_pos hd]
   exact ((Sim.take hL _ _).seq (C := 0) (D := 0) (fun _ => Sim.name hL _) (by omega) (by omega)).seq (fun b => (Sim.take hL _ _).seq (C := 0) (D := 0) (fun _ => (Sim.pure _ _).less (b' := a) 0 (Nat.le_refl _) (by omega)) (by omega) (by omega)) (by omega) (by omega)
  ·rw [if_neg hd, if_neg hd]
   exact (Sim.pure _ _).seq (fun b => (Sim.take hL _ _).seq (C := 0) (D := 0) (fun _ => (Sim.pure _ _).less (b' := a) 0 (Nat.le_refl _) (by omega)) (by omega) (by omega)) (by omega) (by omega)
theorem sim_field (hL : TokOk L) (hE : EndE L) : Sim L 32 (fieldM L) (fieldR L) 0 0 300 0 := by
 unfold fieldM fieldR
 exact (Sim.name hL 0).seq (c' := 300) (d' := 0) (fun w => (Sim.take hL _ _).seq (c' := 300) (d' := 0) (C := 300) (D := 0) (fun _ => ((sim_kind hL 32).less 2 (by omega) (Nat.le_refl _)).seq (c' := 298) (d' := 0) (C := 300) (D := 0) (fun t =>
  (Sim.atTakeG hL (b := 2) (c := 298) (d := 0) (((sim_derived hL hE 2).less 0 (by omega) (by omega)).le (by omega)) ((Sim.pure _ _).le (by omega) (by omega))).seq (c' := 298) (d' := 0) (C := 298) (D := 0) (fun d =>
  (Sim.atTakeG hL (b := 2) (c := 298) (d := 0) ((sim_expr hL 32 3).less (a' := 3) (b' := 2) 0 (Nat.le_refl _) (by omega)).to0 ((Sim.pure _ _).le (by omega) (by omega))).seq (c' := 298) (d' := 0) (C := 298) (D := 0) (fun x =>
  (Sim.take hL _ _).seq (c' := 298) (d' := 0) (C := 298) (D := 0) (fun _ => ((Sim.pure _ _).less (b' := 0) 0 (Nat.le_refl _) (by omega)).le (by omega) (by omega)) (by omega) (by omega)) (by omega) (by omega)) (by omega) (by omega)) (by omega) (by omega)) (by omega) (by omega)) (by omega) (by omega)
theorem sim_subs (hL : TokOk L) : ∀ n l, Sim L m (subsN L n l) (subsR L n l) 0 0 0 0
 | 0, l => Sim.pure l 0
 | n + 1, l => by
  rw [subsN, subsR]
  exact ((Sim.roomIf (namedV L ·) l.length 0).seq (c' := 0) (d' := 0) (C := 0) (D := 0) (fun _ => (Sim.name hL _).seq (c' := 0) (d' := 0) (C := 0) (D := 0) (fun w => (Sim.take hL _ _).seq (c' := 0) (d' := 0) (C := 0) (D := 0) (fun _ => (Sim.number hL _).seq (c' := 0) (d' := 0) (C := 0) (D := 0) (fun b => (Sim.take hL _ _).seq (c' := 0) (d' := 0) (C := 0) (D := 0) (fun _ =>
   Sim.at ((sim_subs hL n _).less 4 (by omega) (by omega)) ((Sim.pure _ _).less 0 (Nat.le_refl _) (by omega))) (by omega) (by omega)) (by omega) (by omega)) (by omega) (by omega)) (by omega) (by omega)) (by omega) (by omega)).guard l
theorem pack_none : integerV w_pack = none := by decide +kernel
def pk1 (L : List TokP) (i : Nat) : PM IT := match integerV (tk L i).t with
 | none => failM 4
 | some (z, lt) => atM (fun i => decide ((tk L i).k = 0)) (stepM >>= fun _ => takeM L t_lcur >>= fun _ => (fun s => subsN L (L.length - s.i + 1) [] s) >>= fun l => takeM L t_rcur >>= fun _ => pure (⟨[], -1, 0, [], [], -1, z, lt, l⟩ : IT)) (failM 4)
def pk2 (L : List TokP) (i : Nat) : RM IT := match integerV (tk L i).t with
 | none => fun s => (⟨[], -1, 0, [], [], -1, 0, false, []⟩, failR 4 s)
 | some (z, lt) => atR (fun i => decide ((tk L i).k = 0)) (stepR >>= fun _ => takeR L t_lcur >>= fun _ => (fun s => subsR L (L.length - s.i + 1) [] s) >>= fun l => takeR L t_rcur >>= fun _ => pure (⟨[], -1, 0, [], [], -1, z, lt, l⟩ : IT)) (fun s => (⟨[], -1, 0, [], [], -1, 0, false, []⟩, failR 4 s))
theorem sim_packAt (hL : TokOk L) {y : PM IT} {y' : RM IT} {c d : Nat} (hy : Sim L m y y' 0 0 c d) : Sim L m (atM (isV L · w_pack) (packM L) y) (atR (isV L · w_pack) (packR L) y') 0 0 c d := by
 have h0 : Sim0 L m (atM (isV L · w_pack) (packM L) y) (atR (isV L · w_pack) (packR L) y') 0 0 c := by
  have e : atM (isV L · w_pack) (packM L) y = atM (isV L · w_pack) (stepM >>= fun _ => fun s => match (if (tk L s.i).k = 0 then integerV (tk L s.i).t else none) with
   | none => failM 4 s
   | some (z, lt) => (stepM >>= fun _ => takeM L t_lcur >>= fun _ => (fun s => subsN L (L.length - s.i + 1) [] s) >>= fun l => takeM L t_rcur >>= fun _ => pure (⟨[], -1, 0, [], [], -1, z, lt, l⟩ : IT)) s) y := by
   funext s
   unfold atM
   by_cases h : isV L s.i w_pack = true
   ·rw [if_pos h, if_pos h]
    unfold packM
    exact and_ok (by unfold takeM; rw [if_pos h]; rfl)
   ·rw [if_neg h, if_neg h]
  rw [e]
  unfold packR
  refine Sim0.atTake hL ?_ hy.to0
  have e1 : (fun s : PS => match (if (tk L s.i).k = 0 then integerV (tk L s.i).t else none) with
   | none => (failM 4 s : PR IT)
   | some (z, lt) => (stepM >>= fun _ => takeM L t_lcur >>= fun _ => (fun s => subsN L (L.length - s.i + 1) [] s) >>= fun l => takeM L t_rcur >>= fun _ => pure (⟨[], -1, 0, [], [], -1, z, lt, l⟩ : IT)) s) =
   fun s => pk1 L s.i s := by
   funext s
   unfold pk1
   by_cases hk : (tk L s.i).k = 0
   ·rw [if_pos hk]
    cases integerV (tk L s.i).t with
    | none => rfl
    | some p => dsimp only; unfold atM; rw [if_pos (decide_eq_true hk)]
   ·rw [if_neg hk]
    cases integerV (tk L s.i).t with
    | none => rfl
    | some p => dsimp only; unfold atM; rw [if_neg (by simpa using hk)]
  have e2 : (fun s : RSt => match (if (tk L s.i).k = 0 then integerV (tk L s.i).t else none) with
   | none => ((⟨[], -1, 0, [], [], -1, 0, false, []⟩ : IT), failR 4 s)
   | some (z, lt) => (stepR >>= fun _ => takeR L t_lcur >>= fun _ => (fun s => subsR L (L.length - s.i + 1) [] s) >>= fun l => takeR L t_rcur >>= fun _ => pure (⟨[], -1, 0, [], [], -1, z, lt, l⟩ : IT)) s) =
   fun s => pk2 L s.i s := by
   funext s
   unfold pk2
   by_cases hk : (tk L s.i).k = 0
   ·rw [if_pos hk]
    cases integerV (tk L s.i).t with
    | none => rfl
    | some p => dsimp only; unfold atR; rw [if_pos (decide_eq_true hk)]
   ·rw [if_neg hk]
    cases integerV (tk L s.i).t with
    | none => rfl
    | some p => dsimp only; unfold atR; rw [if_neg (by simpa using hk)]
  have key : Sim0 L m (fun s => pk1 L s.i s) (fun s => pk2 L s.i s) 1 0 c := Sim0.look (f := pk1 L) (g := pk2 L) fun i => by
   unfold pk1 pk2
   cases integerV (tk L i).t with
   | none => exact (Sim0.fail (by decide) (by decide) _ _ _).le (Nat.zero_le _)
   | some p =>
    obtain ⟨z, lt⟩ := p
    refine Sim0.step hL (fun i h => by have := of_decide_eq_true h; omega) ?_ ((Sim0.fail (by decide) (by decide) _ _ _).le (Nat.zero_le _))
    exact ((Sim.take hL _ _).seq (c' := 0) (d' := 0) (C := c) (D := 0) (fun _ => (Sim.look (f := fun i => subsN L (L.length - i + 1) []) (g := fun i => subsR L (L.length - i + 1) []) fun i => (sim_subs hL _ []).less (b' := 3) 3 (by omega) (by omega)).seq (c' := 0) (d' := 0) (C := 0) (D := 0) (fun l => (Sim.take hL _ _).seq (c' := 0) (d' := 0) (C := 0) (D := 0) (fun _ => (Sim.pure _ _).less (b' := 0) 0 (Nat.le_refl _) (by omega)) (by omega) (by omega)) (by omega) (by omega)) (by omega) (by omega)).to0
  rw [← e1, ← e2] at key
  exact key
 refine ⟨h0.up, h0.ok, fun st hst => ?_⟩
 unfold atR
 by_cases h : isV L st.i w_pack = true
 ·rw [if_pos h]
  have ht : (tk L st.i).t = w_pack := by
   unfold isV at h
   rw [Bool.and_eq_true] at h
   exact of_decide_eq_true h.2
  have e : packR L st = (⟨[], -1, 0, [], [], -1, 0, false, []⟩, st) := by
   unfold packR
   refine (rand (v := ()) (s' := st) (by unfold takeR guardR; rw [if_neg hst])).trans ?_
   show (match (if (tk L st.i).k = 0 then integerV (tk L st.i).t else none) with
    | none => ((⟨[], -1, 0, [], [], -1, 0, false, []⟩ : IT), failR 4 st)
    | some (z, lt) => (stepR >>= fun _ => takeR L t_lcur >>= fun _ => (fun s => subsR L (L.length - s.i + 1) [] s) >>= fun l => takeR L t_rcur >>= fun _ => pure (⟨[], -1, 0, [], [], -1, z, lt, l⟩ : IT)) st) = _
   rw [show (if (tk L st.i).k = 0 then integerV (tk L st.i).t else none) = none by rw [ht, pack_none]; split <;> rfl, failR_bad hst]
  rw [e]
  exact Stay.rfl
 ·rw [if_neg h]; exact hy.bad st hst
theorem sim_pars (hL : TokOk L) : ∀ n l, Sim L m (parsN L n l) (parsR L n l) 0 0 0 0
 | 0, l => Sim.pure l 0
 | n + 1, l => (Sim.atTake hL (c := 0) (d := 0) ((Sim.roomIf (namedV L ·) l.length 1).seq (C := 0) (D := 0) (c' := 0) (d' := 0) (fun _ => (Sim.name hL 1).seq (C := 0) (D := 0) (c' := 0) (d' := 0) (fun x => (sim_pars hL n (l ++ [x])).less 2 (by omega) (by omega)) (by omega) (by omega)) (by omega) (by omega)) (Sim.pure l 0)).guard l
theorem sim_items (hL : TokOk L) (hE : EndE L) : ∀ n l, Sim L 32 (itemsN L n l) (itemsR L n l) 0 0 300 0
 | 0, l => (Sim.pure l 0).le (by omega) (by omega)
 | n + 1, l => (Sim.at (c := 300) (d := 0) ((Sim.room l.length 0).seq (C := 300) (D := 0) (c' := 300) (d' := 0) (fun _ => (sim_packAt hL (sim_field hL hE)).seq (C := 300) (D := 0) (c' := 300) (d' := 0) (fun x => sim_items hL hE n _) (by omega) (by omega)) (by omega) (by omega)) ((Sim.pure l 0).le (by omega) (by omega))).guard l
theorem sim_record (hL : TokOk L) (hE : EndE L) : Sim L 32 (recordM L) (recordR L) 0 0 300 0 := by
 unfold recordM recordR
 exact (Sim.take hL _ _).seq (c' := 300) (d' := 0) (C := 300) (D := 0) (fun _ => (Sim.name hL _).seq (c' := 300) (d' := 0) (C := 300) (D := 0) (fun w =>
  (Sim.atTakeG hL (a := 2) (b := 2) (c := 300) (d := 0) (((Sim.name hL 3).seq (c' := 0) (d' := 0) (C := 0) (D := 0) (fun x => (Sim.look (f := fun i => parsN L (L.length - i + 1) [x]) (g := fun i => parsR L (L.length - i + 1) [x]) fun i => (sim_pars hL _ _).less (b' := 4) 4 (by omega) (by omega)).seq (c' := 0) (d' := 0) (C := 0) (D := 0) (fun l => (Sim.take hL _ _).seq (c' := 0) (d' := 0) (C := 0) (D := 0) (fun _ => (Sim.pure _ _).less (b' := 2) 0 (Nat.le_refl _) (by omega)) (by omega) (by omega)) (by omega) (by omega)) (by omega) (by omega)).le (by omega) (Nat.le_refl _)).to0 ((Sim.pure _ _).le (by omega) (by omega))).seq (c' := 300) (d' := 0) (C := 300) (D := 0) (fun ps =>
  (Sim.take hL _ _).seq (c' := 300) (d' := 0) (C := 300) (D := 0) (fun _ => (Sim.look (f := fun i => itemsN L (L.length - i + 1) []) (g := fun i => itemsR L (L.length - i + 1) []) fun i => (sim_items hL hE _ []).less (b' := 3) 3 (by omega) (Nat.le_refl _)).seq (c' := 0) (d' := 0) (C := 300) (D := 0) (fun is => (Sim.take hL _ _).seq (c' := 0) (d' := 0) (C := 0) (D := 0) (fun _ => (Sim.pure _ _).less (b' := 0) 0 (Nat.le_refl _) (by omega)) (by omega) (by omega)) (by omega) (by omega)) (by omega) (by omega)) (by omega) (by omega)) (by omega) (by omega)) (by omega) (by omega)
theorem sim_const (hL : TokOk L) : Sim L m (constM L) (constR L) 0 0 0 0 := by
 unfold constM constR
 exact (Sim.take hL _ _).seq (c' := 0) (d' := 0) (fun _ => (Sim.name hL _).seq (c' := 0) (d' := 0) (C := 0) (D := 0) (fun w => (Sim.take hL _ _).seq (c' := 0) (d' := 0) (C := 0) (D := 0) (fun _ => (Sim.number hL _).seq (c' := 0) (d' := 0) (C := 0) (D := 0) (fun n => (Sim.take hL _ _).seq (c' := 0) (d' := 0) (C := 0) (D := 0) (fun _ => (Sim.pure _ _).less (b' := 0) 0 (Nat.le_refl _) (by omega)) (by omega) (by omega)) (by omega) (by omega)) (by omega) (by omega)) (by omega) (by omega)) (by omega) (by omega)
theorem sim_whole (hL : TokOk L) (hE : EndE L) : ∀ n cs rs, Sim L 32 (wholeN L n cs rs) (wholeR L n cs rs) 0 0 300 0
 | 0, cs, rs => (Sim.pure _ 0).le (by omega) (by omega)
 | n + 1, cs, rs => Sim0.guard (Sim0.at ((Sim.room cs.length 0).seq (C := 300) (D := 0) (c' := 300) (d' := 0) (fun _ => (sim_const hL).seq (C := 300) (D := 0) (c' := 300) (d' := 0) (fun c => sim_whole hL hE n _ rs) (by omega) (by omega)) (by omega) (by omega)).to0
   (Sim0.at ((Sim.room rs.length 0).seq (C := 300) (D := 0) (c' := 300) (d' := 0) (fun _ => (sim_record hL hE).seq (C := 300) (D := 0) (c' := 300) (d' := 0) (fun r => sim_whole hL hE n cs _) (by omega) (by omega)) (by omega) (by omega)).to0
    (Sim0.at ((Sim.pure (cs, rs) 0).le (c' := 300) (d' := 0) (by omega) (by omega)).to0 ((Sim0.fail (by decide) (by decide) (cs, rs) 0 0).le (by omega))))) (cs, rs)
end
end Go.Proofs.YtoingpafcodojaaGreatDoor

namespace Go.Proofs.YtoingpafcodojaaGreatDoor
open Go.RowKit

section
variable {P : Program} {Γ : Glob} {f : FuncId} {nx : Nat} {xs : List T1} {r : TV} {upd : List (Nat × Blk)} {new : List Blk} {a b c d e : Nat × Blk} {m : List (Nat × Blk)}
theorem CallsM.more2 (h : CallsM P Γ f [a, b] nx xs r upd new) : CallsM P Γ f (a :: b :: m) nx xs r upd new := h.more fun p hp => by
 simp only [List.mem_cons, List.not_mem_nil, or_false] at hp ⊢; rcases hp with hp | hp <;> simp [hp]
theorem CallsM.more3 (h : CallsM P Γ f [a, d] nx xs r upd new) : CallsM P Γ f (a :: b :: c :: d :: m) nx xs r upd new := h.more fun p hp => by
 simp only [List.mem_cons, List.not_mem_nil, or_false] at hp ⊢; rcases hp with hp | hp <;> simp [hp]
theorem CallsM.more5 (h : CallsM P Γ f [a, d, e] nx xs r upd new) : CallsM P Γ f (a :: b :: c :: d :: e :: m) nx xs r upd new := h.more fun p hp => by
 simp only [List.mem_cons, List.not_mem_nil, or_false] at hp ⊢; rcases hp with hp | hp | hp <;> simp [hp]
end
abbrev Rz (L : List TokP) (st : RSt) (a b c d : Nat) : Blk := .obj [.d (.sl 5 (L.map tokD)), .d (di st.i), .d (di st.dep), .row a, .row b, .row c, .row d, .d (di st.err)]
abbrev Xr (l : List EX) : Blk := .row 5 127 (l.map exD)
abbrev Tr (l : List TY) : Blk := .row 8 62 (l.map tyD)
def W0 (L : List TokP) (f : FuncId) (xs : List T1) {α : Type} (y : RM α) (g : α → TV) (st : RSt) : Prop := ∀ v st', y st = (v, st') → CallsM Tryz.prog ΓL f [(0, Rz L st 1 2 3 4)] 5 (P0 :: xs) (g v) [(0, Rz L st' 1 2 3 4)] []
def W1 (L : List TokP) (f : FuncId) (xs : List T1) {α : Type} (y : RM α) (g : α → TV) (st : RSt) : Prop := ∀ v st', y st = (v, st') → ∀ X, st.xs = X → CallsM Tryz.prog ΓL f [(0, Rz L st 1 2 3 4), (3, Xr X)] 5 (P0 :: xs) (g v) [(0, Rz L st' 1 2 5 4), (3, .dead)] [Xr st'.xs]
def W2 (L : List TokP) (f : FuncId) (xs : List T1) {α : Type} (y : RM α) (g : α → TV) (st : RSt) : Prop := ∀ v st', y st = (v, st') → ∀ X T, st.xs = X → st.ts = T → CallsM Tryz.prog ΓL f [(0, Rz L st 1 2 3 4), (3, Xr X), (4, Tr T)] 5 (P0 :: xs) (g v) [(0, Rz L st' 1 2 5 6), (3, .dead), (4, .dead)] [Xr st'.xs, Tr st'.ts]
structure Gd (L : List TokP) (m q b : Nat) (st : RSt) : Prop where
 i : st.i < L.length
 x : st.xs.length ≤ L.length + b
 t : st.ts.length ≤ L.length + b
 d1 : 32 - (m : Int) - b ≤ st.dep
 d2 : st.dep ≤ 32 - (m : Int)
 e : st.err ≤ 10
 dep : st.err = 0 → st.dep = 32 - (m : Int)
 ok : st.err = 0 → SOk L q ⟨st.i, st.xs, st.ts⟩
section
variable {L : List TokP} {m : Nat}
theorem Gd.emb {q b : Nat} {st : RSt} (h : Gd L m q b st) (he : st.err = 0) : st = emb m ⟨st.i, st.xs, st.ts⟩ := by
 have h1 := h.dep he
 obtain ⟨i, dep, err, xs, ts⟩ := st
 cases he
 cases h1
 rfl
theorem Gd.le {q b q' b' : Nat} {st : RSt} (h : Gd L m q b st) (hq : q' ≤ q) (hb : b ≤ b') : Gd L m q' b' st :=
 ⟨h.i, by have := h.x; omega, by have := h.t; omega, by have := h.d1; omega, h.d2, h.e, h.dep, fun he => (h.ok he).less hq⟩
theorem gd_emb {q b : Nat} {s : PS} (h : SOk L q s) : Gd L m q b (emb m s) :=
 ⟨h.i, by have := h.x; have := h.i; show s.xs.length ≤ _; omega, by have := h.t; have := h.i; show s.ts.length ≤ _; omega, by show _ ≤ 32 - (m : Int); omega, Int.le_refl _, by show 0 ≤ 10; omega, fun _ => rfl, fun _ => h⟩
theorem Sim.gd {α : Type} {x : PM α} {y : RM α} {a a' c d b : Nat} (h : Sim L m x y a a' c d) {st st' : RSt} {v : α} (hg : Gd L m a b st) (hc : c ≤ b + d) (hx : y st = (v, st')) : Gd L m a' (b + d) st' := by
 by_cases he : st.err = 0
 ·have hs := hg.ok he
  have h1 := h.ok 0 _ (by rw [Nat.zero_add]; exact hs)
  have hu := h.up _ 0 (by rw [Nat.zero_add]; exact hs)
  rw [← hg.emb he] at h1
  revert h1 hu
  cases x ⟨st.i, st.xs, st.ts⟩ with
  | ok w t =>
   intro h1 hu
   dsimp only at h1 hu
   rw [hx] at h1
   cases h1
   exact gd_emb (by have := hu.1; rwa [Nat.zero_add] at this)
  | err i e =>
   intro h1 hu
   dsimp only at h1 hu
   rw [hx] at h1
   have h1 : Bad L m c i e st' := h1
   exact ⟨by rw [h1.i]; exact hu.2.1, by have := h1.x; omega, by have := h1.t; omega, by have := h1.d1; omega, h1.d2, by rw [h1.e]; exact hu.2.2.2, fun h0 => by rw [h1.e] at h0; omega, fun h0 => by rw [h1.e] at h0; omega⟩
 ·have h1 := h.bad st he
  rw [hx] at h1
  have h1 : Stay d st st' := h1
  exact ⟨by rw [h1.i]; exact hg.i, by have := h1.x; have := hg.x; omega, by have := h1.t; have := hg.t; omega, by have := h1.d1; have := hg.d1; omega, by have := h1.d2; have := hg.d2; omega, by rw [h1.e]; exact hg.e,
   fun h0 => absurd (h1.e.symm.trans h0) he, fun h0 => absurd (h1.e.symm.trans h0) he⟩
end
section
variable {L : List TokP} {st st1 : RSt}
theorem keep_fail {e : Nat} : (failR e st).xs = st.xs ∧ (failR e st).ts = st.ts := by unfold failR; split <;> exact ⟨rfl, rfl⟩
theorem keep_take {t : List UInt8} {v : Unit} (h : takeR L t st = (v, st1)) : st1.xs = st.xs ∧ st1.ts = st.ts := by
 have h2 := congrArg Prod.snd h
 dsimp only at h2
 rw [← h2]
 unfold takeR guardR
 split
 ·dsimp only; split <;> exact ⟨rfl, rfl⟩
 ·exact ⟨rfl, rfl⟩
theorem keep_name {v : List UInt8} (h : nameR L st = (v, st1)) : st1.xs = st.xs ∧ st1.ts = st.ts := by
 have h2 := congrArg Prod.snd h
 dsimp only at h2
 rw [← h2]
 unfold nameR guardR
 split
 ·dsimp only; split <;> exact ⟨rfl, rfl⟩
 ·exact ⟨rfl, rfl⟩
theorem keep_num {v : Nat} (h : numberR L st = (v, st1)) : st1.xs = st.xs ∧ st1.ts = st.ts := by
 have h2 := congrArg Prod.snd h
 dsimp only at h2
 rw [← h2]
 unfold numberR guardR
 split
 ·dsimp only; split <;> exact ⟨rfl, rfl⟩
 ·exact ⟨rfl, rfl⟩
theorem keep_room {n : Nat} {v : Unit} (h : roomR n st = (v, st1)) : st1.xs = st.xs ∧ st1.ts = st.ts := by
 have h2 := congrArg Prod.snd h
 dsimp only at h2
 rw [← h2]
 unfold roomR
 split
 ·exact keep_fail
 ·exact ⟨rfl, rfl⟩
theorem keep_enter {b : Bool} {v : Unit} (h : enterR b st = (v, st1)) : st1.xs = st.xs ∧ st1.ts = st.ts := by
 have h2 := congrArg Prod.snd h
 dsimp only at h2
 rw [← h2]
 unfold enterR guardR
 split
 ·dsimp only
  split
  ·exact ⟨rfl, rfl⟩
  ·split <;> exact ⟨rfl, rfl⟩
 ·exact ⟨rfl, rfl⟩
end
section
variable {L : List TokP}
theorem rfail_c (st : RSt) (e : Nat) (he : e ≤ 10) : CallsM Tryz.prog ΓL 29 [(0, Rz L st 1 2 3 4)] 5 [P0, c1 (di e)] (.tup []) [(0, Rz L (failR e st) 1 2 3 4)] [] := by
 by_cases h : st.err = 0
 ·rw [show failR e st = { st with err := e } from if_pos h]
  refine fn_ruleM (C := ⟨Tryz.prog, layF, Tryz.f29.ntmps, ΓL, 5, [], []⟩) layF_ok mixed Tryz.func29 rfl (by kernel_rfl) rfl rfl rfl ?_
  repeat' (first | refine qgs ?_ | refine eD ?_ ?_ <;> intro)
  exact ⟨rfl, TLe.rfl, rfl, rfl⟩
 ·rw [show failR e st = st from if_neg h]
  refine fn_ruleM (C := ⟨Tryz.prog, layF, Tryz.f29.ntmps, ΓL, 5, [], []⟩) layF_ok mixed Tryz.func29 rfl (by kernel_rfl) rfl rfl rfl ?_
  repeat' (first | refine qgs ?_ | refine eD ?_ ?_ <;> intro)
  exact ⟨rfl, TLe.rfl, rfl, rfl⟩
theorem ris_c (st : RSt) (h : st.i < L.length) (t : List UInt8) : CallsM Tryz.prog ΓL 23 [(0, Rz L st 1 2 3 4)] 5 [P0, c1 (ds (bs t))] (Tb (isV L st.i t)) [(0, Rz L st 1 2 3 4)] [] := by
 have hk := tk_at h
 obtain ⟨R, hR⟩ : ∃ R, isV L st.i t = R := ⟨_, rfl⟩
 rw [hR]
 unfold isV at hR
 generalize tk L st.i = u at *
 by_cases hk3 : u.k = 3
 ·obtain rfl : false = R := by rw [← hR]; simp [hk3]
  refine fn_ruleM (C := ⟨Tryz.prog, layF, Tryz.f23.ntmps, ΓL, 5, [], []⟩) layF_ok mixed Tryz.func23 rfl (by kernel_rfl) rfl rfl rfl ?_
  repeat' (first | refine (ex_row st.i _ rfl hk) ?_ | refine qg1 ?_ | refine eD ?_ ?_ <;> intro)
  exact ⟨rfl, TLe.rfl, rfl, rfl⟩
 ·by_cases ht : u.t = t
  ·obtain rfl : true = R := by rw [← hR]; simp [hk3, ht]
   refine fn_ruleM (C := ⟨Tryz.prog, layF, Tryz.f23.ntmps, ΓL, 5, [], []⟩) layF_ok mixed Tryz.func23 rfl (by kernel_rfl) rfl rfl rfl ?_
   repeat' (first | refine (ex_true (by rw [ht])) ?_ | refine (ex_row st.i _ rfl hk) ?_ | refine qg1 ?_ | refine eD ?_ ?_ <;> intro)
   exact ⟨rfl, TLe.rfl, rfl, rfl⟩
  ·obtain rfl : false = R := by rw [← hR]; simp [hk3, ht]
   refine fn_ruleM (C := ⟨Tryz.prog, layF, Tryz.f23.ntmps, ΓL, 5, [], []⟩) layF_ok mixed Tryz.func23 rfl (by kernel_rfl) rfl rfl rfl ?_
   repeat' (first | refine (ex_false (fun e => ht (bsj.1 e))) ?_ | refine (ex_row st.i _ rfl hk) ?_ | refine qg1 ?_ | refine eD ?_ ?_ <;> intro)
   exact ⟨rfl, TLe.rfl, rfl, rfl⟩
theorem rtake_c (st : RSt) (h : st.i < L.length) (hn : L.length ≤ 100000) (t : List UInt8) : W0 L 25 [c1 (ds (bs t))] (takeR L t) (fun _ => .tup []) st := fun v st' hT => by
 have hi := ris_c st h t
 unfold takeR guardR at hT
 by_cases he : st.err = 0
 ·rw [if_pos he] at hT
  dsimp only at hT
  rcases hv : isV L st.i t with _ | _ <;> rw [hv] at hi hT
  ·obtain rfl : { st with err := 4 } = st' := congrArg Prod.snd hT
   have hf := rfail_c (L := L) st 4 (by omega)
   rw [show failR 4 st = { st with err := 4 } from if_pos he] at hf
   refine fn_ruleM (C := ⟨Tryz.prog, layF, Tryz.f25.ntmps, ΓL, 5, [], []⟩) layF_ok mixed Tryz.func25 rfl (by kernel_rfl) rfl rfl rfl ?_
   repeat' (first | refine qgs ?_ | refine eD ?_ ?_ <;> intro)
   refine ex_callM (CallsM.ren (hi) [0, 1, 2, 3, 4] 5 rfl rfl rfl rfl) ?_
   repeat' (first | refine qgs ?_ | refine eD ?_ ?_ <;> intro)
   refine ex_callM (CallsM.ren (hf) [0, 1, 2, 3, 4] 5 rfl rfl rfl rfl) ?_
   repeat' (first | refine qgs ?_ | refine eD ?_ ?_ <;> intro)
   exact ⟨rfl, TLe.rfl, rfl, rfl⟩
  ·obtain rfl : { st with i := st.i + 1 } = st' := congrArg Prod.snd hT
   refine fn_ruleM (C := ⟨Tryz.prog, layF, Tryz.f25.ntmps, ΓL, 5, [], []⟩) layF_ok mixed Tryz.func25 rfl (by kernel_rfl) rfl rfl rfl ?_
   repeat' (first | refine qgs ?_ | refine eD ?_ ?_ <;> intro)
   refine ex_callM (CallsM.ren (hi) [0, 1, 2, 3, 4] 5 rfl rfl rfl rfl) ?_
   repeat' (first | refine aI ((st.i + 1 : Nat) : Int) ?_ | refine aU ((st.i + 1 : Nat) : Int) ?_ | refine aB ((st.i + 1 : Nat) : Int) ?_ | refine qg1 ?_ | refine eD ?_ ?_ <;> intro)
   exact ⟨rfl, TLe.rfl, rfl, rfl⟩
 ·rw [if_neg he] at hT
  obtain rfl : st = st' := congrArg Prod.snd hT
  refine fn_ruleM (C := ⟨Tryz.prog, layF, Tryz.f25.ntmps, ΓL, 5, [], []⟩) layF_ok mixed Tryz.func25 rfl (by kernel_rfl) rfl rfl rfl ?_
  repeat' (first | refine qgs ?_ | refine eD ?_ ?_ <;> intro)
  refine ex_callM (CallsM.ren (hi) [0, 1, 2, 3, 4] 5 rfl rfl rfl rfl) ?_
  repeat' (first | refine qgs ?_ | refine eD ?_ ?_ <;> intro)
  exact ⟨rfl, TLe.rfl, rfl, rfl⟩
end
end Go.Proofs.YtoingpafcodojaaGreatDoor

namespace Go.Proofs.YtoingpafcodojaaGreatDoor
open Go.RowKit

theorem ints_at {i : Nat} {p : List UInt8 × Nat × Bool} (h : intsL[i]? = some p) : p.2.2 = (decide (0 < i) && decide (i % 2 = 0)) := by
 have hi : i < 9 := (List.getElem?_eq_some_iff.1 h).1
 rcases (show i = 0 ∨ i = 1 ∨ i = 2 ∨ i = 3 ∨ i = 4 ∨ i = 5 ∨ i = 6 ∨ i = 7 ∨ i = 8 by omega) with rfl | rfl | rfl | rfl | rfl | rfl | rfl | rfl | rfl <;> (cases h; rfl)
def rintTV : Option (Nat × Bool) → TV
 | some (n, l) => .tup [c1 (di n), c1 (db l)]
 | none => .tup [c1 (di 0), c1 (db false)]
set_option maxHeartbeats 2000000 in
theorem rinteger_c (w : List UInt8) : CallsA Tryz.prog Γ0 68 [c1 (ds (bs w))] (rintTV (integerV w)) := by
 obtain ⟨R, hR⟩ : ∃ R, integerV w = R := ⟨_, rfl⟩
 rw [hR]
 have hl9 : intsL.length = 9 := rfl
 refine fn_rule (C := ⟨Tryz.prog, layF, Tryz.f68.ntmps, Γ0, 0, [2], []⟩) layF_ok mixed Tryz.func68 rfl (by kernel_rfl) rfl rfl rfl ?_
 repeat' (first | refine qgs ?_ | refine eD ?_ ?_ <;> intro)
 refine ex_join (X := Unit) (fun _ => ⟨[(0, Tstr (bs w)), (4, .o (c1 (.sl 1 (intsL.map fun p => [ds (bs p.1)])))), (5, .o (c1 (.sl 1 (intsL.map fun p => [di p.2.1]))))], [], 2⟩) (fun _ => True) ?_ ?_
 ·exact ex_meet () trivial (SLe.trans (SLe.trans sS (SLe.still 1 1 3 (intsL.map fun p => [di p.2.1]) rfl)) (SLe.still 0 1 9 (intsL.map fun p => [ds (bs p.1)]) rfl))
 intro _ _
 repeat' (first | refine qgs ?_ | refine eD ?_ ?_ <;> intro)
 refine ex_loop (X := Nat) (fun i => ⟨[(0, Tstr (bs w)), (4, .o (c1 (.sl 1 (intsL.map fun p => [ds (bs p.1)])))), (5, .o (c1 (.sl 1 (intsL.map fun p => [di p.2.1])))), (6, Ti i)], [], 2⟩) (fun i => 9 - i) (fun i => i ≤ 9 ∧ ((intsL.drop i).find? fun p => p.1 == w).map (·.2) = R) 0 ⟨by omega, hR⟩ sS ?_
 rintro i ⟨hi, hP⟩
 refine ex_is 9 (by rw [List.length_map]; rfl) ?_
 refine ex_dec (fun h => ?_) (fun h => ?_)
 ·have h9 : i < 9 := by omega
  obtain ⟨p, hp⟩ : ∃ p, intsL[i]? = some p := ⟨_, List.getElem?_eq_getElem (by omega)⟩
  have hd : intsL.drop i = p :: intsL.drop (i + 1) := by
   rw [List.drop_eq_getElem_cons (by omega : i < intsL.length)]
   rw [(List.getElem?_eq_some_iff.1 hp).2]
  rw [hd, List.find?_cons] at hP
  have hla := ints_at hp
  by_cases hw : p.1 = w
  ·rw [show (p.1 == w) = true by simpa using hw] at hP
   dsimp only at hP
   subst hP
   rw [Option.map_some]
   obtain ⟨pn, pz, pl⟩ := p
   obtain rfl : pn = w := hw
   rcases (show i = 0 ∨ i = 1 ∨ i = 2 ∨ i = 3 ∨ i = 4 ∨ i = 5 ∨ i = 6 ∨ i = 7 ∨ i = 8 by omega) with rfl | rfl | rfl | rfl | rfl | rfl | rfl | rfl | rfl
   all_goals
    obtain rfl : pl = _ := hla
    repeat' (first | refine (ex_is (1 : Int) (by decide)) ?_ | refine (ex_is (0 : Int) (by decide)) ?_ | refine (ex_row _ _ rfl hp) ?_ | refine qg1 ?_ | refine eD ?_ ?_ <;> intro)
    exact TLe.rfl
  ·rw [show (p.1 == w) = false by simpa using hw] at hP
   repeat' (first | refine aI ((i + 1 : Nat) : Int) ?_ | refine aU ((i + 1 : Nat) : Int) ?_ | refine aB ((i + 1 : Nat) : Int) ?_ | refine (ex_false (fun e => hw (bsj.1 e))) ?_ | refine (ex_row i p rfl hp) ?_ | refine qg1 ?_ | refine eD ?_ ?_ <;> intro)
   exact ex_round (i + 1) ⟨by omega, hP⟩ (by show 9 - (i + 1) < 9 - i; omega) sS
 ·obtain rfl : i = 9 := by omega
  obtain rfl : none = R := hP
  repeat' (first | refine qgs ?_ | refine eD ?_ ?_ <;> intro)
  exact TLe.rfl
theorem int_pos {w : List UInt8} {n : Nat} {l : Bool} (h : integerV w = some (n, l)) : 0 < n := by
 unfold integerV at h
 obtain ⟨p, hp, he⟩ := Option.map_eq_some_iff.1 h
 have hm := List.mem_of_find?_eq_some hp
 have : (intsL.all fun p => decide (0 < p.2.1)) = true := by decide
 have := of_decide_eq_true (List.all_eq_true.1 this p hm)
 rw [he] at this
 exact this
theorem rkey_c (w : List UInt8) : CallsA Tryz.prog Γ0 67 [c1 (ds (bs w))] (Tb (keyV w)) := by
 obtain ⟨R, hR⟩ : ∃ R, keyV w = R := ⟨_, rfl⟩
 rw [hR]
 unfold keyV at hR
 have hl : keysL.length = 19 := rfl
 have hin := rinteger_c w
 refine fn_rule (C := ⟨Tryz.prog, layF, Tryz.f67.ntmps, Γ0, 0, [1], []⟩) layF_ok mixed Tryz.func67 rfl (by kernel_rfl) rfl rfl rfl ?_
 repeat' (first | refine qgs ?_ | refine eD ?_ ?_ <;> intro)
 refine ex_join (X := Unit) (fun _ => ⟨[(0, Tstr (bs w)), (3, .o (c1 (.sl 1 (keysL.map fun p => [ds (bs p)]))))], [], 2⟩) (fun _ => True) ?_ ?_
 ·exact ex_meet () trivial (SLe.trans sS (SLe.still 0 1 9 (keysL.map fun p => [ds (bs p)]) rfl))
 intro _ _
 repeat' (first | refine qgs ?_ | refine eD ?_ ?_ <;> intro)
 refine ex_loop (X := Nat) (fun i => ⟨[(0, Tstr (bs w)), (3, .o (c1 (.sl 1 (keysL.map fun p => [ds (bs p)])))), (4, Ti i)], [], 2⟩) (fun i => 19 - i) (fun i => i ≤ 19 ∧ ((keysL.drop i).contains w || (integerV w).isSome) = R) 0 ⟨by omega, hR⟩ sS ?_
 rintro i ⟨hi, hP⟩
 refine ex_is 19 (by rw [List.length_map]; rfl) ?_
 refine ex_dec (fun h => ?_) (fun h => ?_)
 ·obtain ⟨p, hp⟩ : ∃ p, keysL[i]? = some p := ⟨_, List.getElem?_eq_getElem (by omega)⟩
  have hd : keysL.drop i = p :: keysL.drop (i + 1) := by
   rw [List.drop_eq_getElem_cons (by omega : i < keysL.length)]
   rw [(List.getElem?_eq_some_iff.1 hp).2]
  rw [hd, List.contains_cons] at hP
  by_cases hw : p = w
  ·subst hw
   obtain rfl : true = R := by rw [← hP]; simp
   repeat' (first | refine (ex_row i p rfl hp) ?_ | refine qg1 ?_ | refine eD ?_ ?_ <;> intro)
   exact TLe.rfl
  ·rw [show (w == p) = false by simpa using fun e => hw e.symm, Bool.false_or] at hP
   repeat' (first | refine aI ((i + 1 : Nat) : Int) ?_ | refine aU ((i + 1 : Nat) : Int) ?_ | refine aB ((i + 1 : Nat) : Int) ?_ | refine (ex_false (fun e => hw (bsj.1 e))) ?_ | refine (ex_row i p rfl hp) ?_ | refine qg1 ?_ | refine eD ?_ ?_ <;> intro)
   exact ex_round (i + 1) ⟨by omega, hP⟩ (by show 19 - (i + 1) < 19 - i; omega) sS
 ·obtain rfl : i = 19 := by omega
  have hP : (integerV w).isSome = R := hP
  rcases hv : integerV w with _ | ⟨n, l⟩ <;> rw [hv] at hin hP
  ·obtain rfl : false = R := hP
   have hin : CallsA Tryz.prog Γ0 68 [c1 (ds (bs w))] (.tup [c1 (di 0), c1 (db false)]) := hin
   repeat' (first | refine ex_call hin ?_ | refine qg1 ?_ | refine eD ?_ ?_ <;> intro)
   exact TLe.rfl
  ·obtain rfl : true = R := hP
   have hin : CallsA Tryz.prog Γ0 68 [c1 (ds (bs w))] (.tup [c1 (di n), c1 (db l)]) := hin
   have hn : 0 < n := int_pos hv
   repeat' (first | refine ex_call hin ?_ | refine qg1 ?_ | refine eD ?_ ?_ <;> intro)
   exact TLe.rfl
def lvL : List (List (List UInt8)) := [[[124, 124]], [[38, 38]], [[61, 61], [33, 61], [60], [60, 61], [62], [62, 61]], [[124]], [[38]], [[60, 60], [62, 62]], [[43], [45]], [[42], [47], [37]]]
theorem lv_in : ((List.range 8).all fun i => (lvL.getD i []).all fun x : List UInt8 => decide (levelV x = i + 1)) = true := by decide +kernel
theorem lv_out {w : List UInt8} (h : ∀ (i : Nat) (l : List (List UInt8)), lvL[i]? = some l → w ∉ l) : levelV w = 0 := by
 have hm : w ∉ levelsL.map (·.1) := by
  intro hm
  simp only [levelsL, List.map_cons, List.map_nil, List.mem_cons, List.not_mem_nil, or_false] at hm
  rcases hm with rfl | rfl | rfl | rfl | rfl | rfl | rfl | rfl | rfl | rfl | rfl | rfl | rfl | rfl | rfl | rfl | rfl
  ·exact h 0 _ rfl (by simp)
  ·exact h 1 _ rfl (by simp)
  ·exact h 2 _ rfl (by simp)
  ·exact h 2 _ rfl (by simp)
  ·exact h 2 _ rfl (by simp)
  ·exact h 2 _ rfl (by simp)
  ·exact h 2 _ rfl (by simp)
  ·exact h 2 _ rfl (by simp)
  ·exact h 3 _ rfl (by simp)
  ·exact h 4 _ rfl (by simp)
  ·exact h 5 _ rfl (by simp)
  ·exact h 5 _ rfl (by simp)
  ·exact h 6 _ rfl (by simp)
  ·exact h 6 _ rfl (by simp)
  ·exact h 7 _ rfl (by simp)
  ·exact h 7 _ rfl (by simp)
  ·exact h 7 _ rfl (by simp)
 have : List.find? (fun p => p.1 == w) levelsL = none := List.find?_eq_none.2 (fun p hp he => hm (List.mem_map.2 ⟨p, hp, by simpa using he⟩))
 unfold levelV; rw [this]; rfl
theorem rlevel_c (w : List UInt8) : CallsA Tryz.prog Γ0 96 [c1 (ds (bs w))] (Ti (levelV w)) := by
 have hl : lvL.length = 8 := rfl
 refine fn_rule (C := ⟨Tryz.prog, layF, Tryz.f96.ntmps, Γ0, 0, [1], []⟩) layF_ok mixed Tryz.func96 rfl (by kernel_rfl) rfl rfl rfl ?_
 repeat' (first | refine qgs ?_ | refine eD ?_ ?_ <;> intro)
 refine ex_join (X := Unit) (fun _ => ⟨[(0, Tstr (bs w)), (3, .o (c1 (.sl 1 (lvL.map fun l => [.sl 1 (l.map fun s => [ds (bs s)])]))))], [], 9⟩) (fun _ => True) ?_ ?_
 ·exact ex_meet () trivial (SLe.trans sS (SLe.still 8 1 65 (lvL.map fun l => [.sl 1 (l.map fun s => [ds (bs s)])]) rfl))
 intro _ _
 repeat' (first | refine qgs ?_ | refine eD ?_ ?_ <;> intro)
 refine ex_loop (X := Nat) (fun i => ⟨[(0, Tstr (bs w)), (3, .o (c1 (.sl 1 (lvL.map fun l => [.sl 1 (l.map fun s => [ds (bs s)])])))), (4, Ti i)], [], 9⟩) (fun i => 8 - i) (fun i => i ≤ 8 ∧ ∀ (j : Nat) (l : List (List UInt8)), j < i → lvL[j]? = some l → w ∉ l) 0 ⟨by omega, fun j l h => absurd h (by omega)⟩ sS ?_
 rintro i ⟨hi, hP⟩
 refine ex_is 8 (by rw [List.length_map]; rfl) ?_
 refine ex_dec (fun h => ?_) (fun h => ?_)
 ·obtain ⟨l, hl9⟩ : ∃ l, lvL[i]? = some l := ⟨_, List.getElem?_eq_getElem (by omega)⟩
  have hll : l.length ≤ 6 := of_decide_eq_true (List.all_eq_true.1 (show (lvL.all fun l => decide (l.length ≤ 6)) = true by decide) l (List.mem_of_getElem? hl9))
  repeat' (first | refine qgs ?_ | refine eD ?_ ?_ <;> intro)
  refine ex_loop (X := Nat) (fun k => ⟨[(0, Tstr (bs w)), (3, .o (c1 (.sl 1 (lvL.map fun l => [.sl 1 (l.map fun s => [ds (bs s)])])))), (4, Ti i), (5, Ti k)], [], 9⟩) (fun k => l.length - k) (fun k => k ≤ l.length ∧ ∀ j : Nat, j < k → l[j]? ≠ some w) 0 ⟨Nat.zero_le _, fun j h => absurd h (by omega)⟩ sS ?_
  rintro k ⟨hk, hK⟩
  have hal := List.all_eq_true.1 lv_in i (List.mem_range.2 (by omega))
  rw [List.getD_eq_getElem?_getD, hl9, Option.getD_some] at hal
  have hal : ∀ x ∈ l, levelV x = i + 1 := fun x hx => of_decide_eq_true (List.all_eq_true.1 hal x hx)
  have hP' := hP
  clear hP
  repeat' (first | refine (ex_row i l rfl hl9) ?_ | refine qg1 ?_ | refine eD ?_ ?_ <;> intro)
  ·rename_i h2
   have hkl : k < l.length := by omega
   obtain ⟨x, hx⟩ : ∃ x, l[k]? = some x := ⟨_, List.getElem?_eq_getElem hkl⟩
   by_cases hw : x = w
   ·subst hw
    rw [hal x (List.mem_of_getElem? hx)]
    repeat' (first | refine aI ((i + 1 : Nat) : Int) ?_ | refine aU ((i + 1 : Nat) : Int) ?_ | refine aB ((i + 1 : Nat) : Int) ?_ | refine (ex_row k x rfl hx) ?_ | refine (ex_row i l rfl hl9) ?_ | refine qg1 ?_ | refine eD ?_ ?_ <;> intro)
    exact TLe.rfl
   ·repeat' (first | refine aI ((k + 1 : Nat) : Int) ?_ | refine aU ((k + 1 : Nat) : Int) ?_ | refine aB ((k + 1 : Nat) : Int) ?_ | refine (ex_false (fun e => hw (bsj.1 e))) ?_ | refine (ex_row k x rfl hx) ?_ | refine (ex_row i l rfl hl9) ?_ | refine qg1 ?_ | refine eD ?_ ?_ <;> intro)
    exact ex_round (k + 1) ⟨by omega, fun j hj => by
     by_cases e : j = k
     ·subst e; rw [hx]; exact fun h => hw (Option.some.inj h)
     ·exact hK j (by omega)⟩ (by show _ - _ < _ - _; omega) sS
  ·repeat' (first | refine aI ((i + 1 : Nat) : Int) ?_ | refine aU ((i + 1 : Nat) : Int) ?_ | refine aB ((i + 1 : Nat) : Int) ?_ | refine qg1 ?_ | refine eD ?_ ?_ <;> intro)
   exact ex_round (i + 1) ⟨by omega, fun j l' hj hl' => by
    by_cases e : j = i
    ·subst e
     rw [hl9] at hl'
     cases hl'
     intro hm
     obtain ⟨q, hq, hq2⟩ := List.getElem_of_mem hm
     exact hK q (by omega) (by rw [List.getElem?_eq_getElem hq, hq2])
    ·exact hP' j l' (by omega) hl'⟩ (by show 8 - (i + 1) < 8 - i; omega) sS
 ·obtain rfl : i = 8 := by omega
  rw [lv_out (w := w) fun j l hl9 => hP j l (by have := (List.getElem?_eq_some_iff.1 hl9).1; omega) hl9]
  repeat' (first | refine qgs ?_ | refine eD ?_ ?_ <;> intro)
  exact TLe.rfl
end Go.Proofs.YtoingpafcodojaaGreatDoor

namespace Go.Proofs.YtoingpafcodojaaGreatDoor
open Go.RowKit

section
variable {L : List TokP}
theorem rnamed_c (st : RSt) (h : st.i < L.length) : CallsM Tryz.prog ΓL 45 [(0, Rz L st 1 2 3 4)] 5 [P0] (Tb (namedV L st.i)) [(0, Rz L st 1 2 3 4)] [] := by
 have hk := tk_at h
 obtain ⟨R, hR⟩ : ∃ R, namedV L st.i = R := ⟨_, rfl⟩
 rw [hR]
 unfold namedV at hR
 generalize tk L st.i = u at *
 have hc := (rkey_c u.t).gL
 generalize keyV u.t = q at *
 by_cases h0 : u.k = 0
 ·obtain rfl : (!q) = R := by rw [← hR, decide_eq_true h0]; rfl
  cases q
  all_goals
   refine fn_ruleM (C := ⟨Tryz.prog, layF, Tryz.f45.ntmps, ΓL, 5, [], []⟩) layF_ok mixed Tryz.func45 rfl (by kernel_rfl) rfl rfl rfl ?_
   repeat' (first | refine ex_call hc ?_ | refine (ex_row st.i _ rfl hk) ?_ | refine qg1 ?_ | refine eD ?_ ?_ <;> intro)
   exact ⟨rfl, TLe.rfl, rfl, rfl⟩
 ·obtain rfl : false = R := by rw [← hR, decide_eq_false h0]; rfl
  refine fn_ruleM (C := ⟨Tryz.prog, layF, Tryz.f45.ntmps, ΓL, 5, [], []⟩) layF_ok mixed Tryz.func45 rfl (by kernel_rfl) rfl rfl rfl ?_
  repeat' (first | refine ex_call hc ?_ | refine (ex_row st.i _ rfl hk) ?_ | refine qg1 ?_ | refine eD ?_ ?_ <;> intro)
  exact ⟨rfl, TLe.rfl, rfl, rfl⟩
theorem rname_c (st : RSt) (h : st.i < L.length) (hn : L.length ≤ 100000) : W0 L 26 [] (nameR L) (fun w => Tstr (bs w)) st := fun v st' hT => by
 have hi := rnamed_c st h
 have hk := tk_at h
 unfold nameR guardR at hT
 by_cases he : st.err = 0
 ·rw [if_pos he] at hT
  dsimp only at hT
  rcases hv : namedV L st.i with _ | _ <;> rw [hv] at hi hT
  ·obtain rfl : { st with err := 4 } = st' := congrArg Prod.snd hT
   obtain rfl : [] = v := congrArg Prod.fst hT
   have hf := rfail_c (L := L) st 4 (by omega)
   rw [show failR 4 st = { st with err := 4 } from if_pos he] at hf
   refine fn_ruleM (C := ⟨Tryz.prog, layF, Tryz.f26.ntmps, ΓL, 5, [], []⟩) layF_ok mixed Tryz.func26 rfl (by kernel_rfl) rfl rfl rfl ?_
   repeat' (first | refine qgs ?_ | refine eD ?_ ?_ <;> intro)
   refine sC (CallsM.ren (hi) [0, 1, 2, 3, 4] 5 rfl rfl rfl rfl) ?_
   repeat' (first | refine qgs ?_ | refine eD ?_ ?_ <;> intro)
   refine sC (CallsM.ren (hf) [0, 1, 2, 3, 4] 5 rfl rfl rfl rfl) ?_
   repeat' (first | refine qgs ?_ | refine eD ?_ ?_ <;> intro)
   exact ⟨rfl, TLe.rfl, rfl, rfl⟩
  ·obtain rfl : { st with i := st.i + 1 } = st' := congrArg Prod.snd hT
   obtain rfl : (tk L st.i).t = v := congrArg Prod.fst hT
   refine fn_ruleM (C := ⟨Tryz.prog, layF, Tryz.f26.ntmps, ΓL, 5, [], []⟩) layF_ok mixed Tryz.func26 rfl (by kernel_rfl) rfl rfl rfl ?_
   repeat' (first | refine qgs ?_ | refine eD ?_ ?_ <;> intro)
   refine sC (CallsM.ren (hi) [0, 1, 2, 3, 4] 5 rfl rfl rfl rfl) ?_
   repeat' (first | refine aI ((st.i : Nat) : Int) ?_ | refine aU ((st.i : Nat) : Int) ?_ | refine aB ((st.i : Nat) : Int) ?_ | refine aI ((st.i + 1 : Nat) : Int) ?_ | refine aU ((st.i + 1 : Nat) : Int) ?_ | refine aB ((st.i + 1 : Nat) : Int) ?_ | refine (ex_row st.i _ rfl hk) ?_ | refine qg1 ?_ | refine eD ?_ ?_ <;> intro)
   exact ⟨rfl, TLe.rfl, rfl, rfl⟩
 ·rw [if_neg he] at hT
  obtain rfl : st = st' := congrArg Prod.snd hT
  obtain rfl : [] = v := congrArg Prod.fst hT
  refine fn_ruleM (C := ⟨Tryz.prog, layF, Tryz.f26.ntmps, ΓL, 5, [], []⟩) layF_ok mixed Tryz.func26 rfl (by kernel_rfl) rfl rfl rfl ?_
  repeat' (first | refine qgs ?_ | refine eD ?_ ?_ <;> intro)
  refine sC (CallsM.ren (hi) [0, 1, 2, 3, 4] 5 rfl rfl rfl rfl) ?_
  repeat' (first | refine qgs ?_ | refine eD ?_ ?_ <;> intro)
  exact ⟨rfl, TLe.rfl, rfl, rfl⟩
theorem rnum_c (st : RSt) (h : st.i < L.length) (hn : L.length ≤ 100000) : W0 L 27 [] (numberR L) (fun n => Tu n) st := fun v st' hT => by
 have hk := tk_at h
 unfold numberR guardR at hT
 by_cases he : st.err = 0
 ·rw [if_pos he] at hT
  dsimp only at hT
  by_cases hv : (tk L st.i).k = 1
  ·rw [if_pos hv] at hT
   obtain rfl : { st with i := st.i + 1 } = st' := congrArg Prod.snd hT
   obtain rfl : (tk L st.i).n = v := congrArg Prod.fst hT
   refine fn_ruleM (C := ⟨Tryz.prog, layF, Tryz.f27.ntmps, ΓL, 5, [], []⟩) layF_ok mixed Tryz.func27 rfl (by kernel_rfl) rfl rfl rfl ?_
   repeat' (first | refine aI ((st.i : Nat) : Int) ?_ | refine aU ((st.i : Nat) : Int) ?_ | refine aB ((st.i : Nat) : Int) ?_ | refine aI ((st.i + 1 : Nat) : Int) ?_ | refine aU ((st.i + 1 : Nat) : Int) ?_ | refine aB ((st.i + 1 : Nat) : Int) ?_ | refine (ex_row st.i _ rfl hk) ?_ | refine qg1 ?_ | refine eD ?_ ?_ <;> intro)
   exact ⟨rfl, TLe.rfl, rfl, rfl⟩
  ·rw [if_neg hv] at hT
   obtain rfl : { st with err := 4 } = st' := congrArg Prod.snd hT
   obtain rfl : 0 = v := congrArg Prod.fst hT
   have hf := rfail_c (L := L) st 4 (by omega)
   rw [show failR 4 st = { st with err := 4 } from if_pos he] at hf
   refine fn_ruleM (C := ⟨Tryz.prog, layF, Tryz.f27.ntmps, ΓL, 5, [], []⟩) layF_ok mixed Tryz.func27 rfl (by kernel_rfl) rfl rfl rfl ?_
   repeat' (first | refine (ex_row st.i _ rfl hk) ?_ | refine qg1 ?_ | refine eD ?_ ?_ <;> intro)
   refine sC (CallsM.ren (hf) [0, 1, 2, 3, 4] 5 rfl rfl rfl rfl) ?_
   repeat' (first | refine qgs ?_ | refine eD ?_ ?_ <;> intro)
   exact ⟨rfl, TLe.rfl, rfl, rfl⟩
 ·rw [if_neg he] at hT
  obtain rfl : st = st' := congrArg Prod.snd hT
  obtain rfl : 0 = v := congrArg Prod.fst hT
  refine fn_ruleM (C := ⟨Tryz.prog, layF, Tryz.f27.ntmps, ΓL, 5, [], []⟩) layF_ok mixed Tryz.func27 rfl (by kernel_rfl) rfl rfl rfl ?_
  repeat' (first | refine qgs ?_ | refine eD ?_ ?_ <;> intro)
  exact ⟨rfl, TLe.rfl, rfl, rfl⟩
theorem renter_c (st : RSt) (h1 : -10000 ≤ st.dep) (h2 : st.dep ≤ 10000) (may : Bool) : W0 L 126 [c1 (db may)] (enterR may) (fun _ => .tup []) st := fun v st' hT => by
 unfold enterR guardR at hT
 by_cases he : st.err = 0
 ·rw [if_pos he] at hT
  dsimp only at hT
  cases may
  ·obtain rfl : { st with err := 4 } = st' := congrArg Prod.snd hT
   have hf := rfail_c (L := L) st 4 (by omega)
   rw [show failR 4 st = { st with err := 4 } from if_pos he] at hf
   refine fn_ruleM (C := ⟨Tryz.prog, layF, Tryz.f126.ntmps, ΓL, 5, [], []⟩) layF_ok mixed Tryz.func126 rfl (by kernel_rfl) rfl rfl rfl ?_
   repeat' (first | refine qgs ?_ | refine eD ?_ ?_ <;> intro)
   refine sC (CallsM.ren (hf) [0, 1, 2, 3, 4] 5 rfl rfl rfl rfl) ?_
   repeat' (first | refine qgs ?_ | refine eD ?_ ?_ <;> intro)
   exact ⟨rfl, TLe.rfl, rfl, rfl⟩
  ·rw [if_neg (by decide)] at hT
   by_cases hd : 32 ≤ st.dep
   ·rw [if_pos hd] at hT
    obtain rfl : { st with err := 8 } = st' := congrArg Prod.snd hT
    have hf := rfail_c (L := L) st 8 (by omega)
    rw [show failR 8 st = { st with err := 8 } from if_pos he] at hf
    refine fn_ruleM (C := ⟨Tryz.prog, layF, Tryz.f126.ntmps, ΓL, 5, [], []⟩) layF_ok mixed Tryz.func126 rfl (by kernel_rfl) rfl rfl rfl ?_
    repeat' (first | refine qgs ?_ | refine eD ?_ ?_ <;> intro)
    refine sC (CallsM.ren (hf) [0, 1, 2, 3, 4] 5 rfl rfl rfl rfl) ?_
    repeat' (first | refine qgs ?_ | refine eD ?_ ?_ <;> intro)
    exact ⟨rfl, TLe.rfl, rfl, rfl⟩
   ·rw [if_neg hd] at hT
    obtain rfl : { st with dep := st.dep + 1 } = st' := congrArg Prod.snd hT
    refine fn_ruleM (C := ⟨Tryz.prog, layF, Tryz.f126.ntmps, ΓL, 5, [], []⟩) layF_ok mixed Tryz.func126 rfl (by kernel_rfl) rfl rfl rfl ?_
    repeat' (first | refine qgs ?_ | refine eD ?_ ?_ <;> intro)
    exact ⟨rfl, TLe.rfl, rfl, rfl⟩
 ·rw [if_neg he] at hT
  obtain rfl : st = st' := congrArg Prod.snd hT
  refine fn_ruleM (C := ⟨Tryz.prog, layF, Tryz.f126.ntmps, ΓL, 5, [], []⟩) layF_ok mixed Tryz.func126 rfl (by kernel_rfl) rfl rfl rfl ?_
  repeat' (first | refine qgs ?_ | refine eD ?_ ?_ <;> intro)
  exact ⟨rfl, TLe.rfl, rfl, rfl⟩
theorem rroom_c (st : RSt) (n : Nat) (hn : n ≤ 1000000) : W0 L 24 [c1 (di n), c1 (di 64)] (roomR n) (fun _ => .tup []) st := fun v st' hT => by
 unfold roomR at hT
 by_cases h : 64 ≤ n
 ·rw [if_pos h] at hT
  obtain rfl : failR 10 st = st' := congrArg Prod.snd hT
  refine fn_ruleM (C := ⟨Tryz.prog, layF, Tryz.f24.ntmps, ΓL, 5, [], []⟩) layF_ok mixed Tryz.func24 rfl (by kernel_rfl) rfl rfl rfl ?_
  repeat' (first | refine qgs ?_ | refine eD ?_ ?_ <;> intro)
  refine sC (CallsM.ren ((rfail_c (L := L) st 10 (by omega))) [0, 1, 2, 3, 4] 5 rfl rfl rfl rfl) ?_
  repeat' (first | refine qgs ?_ | refine eD ?_ ?_ <;> intro)
  exact ⟨rfl, TLe.rfl, rfl, rfl⟩
 ·rw [if_neg h] at hT
  obtain rfl : st = st' := congrArg Prod.snd hT
  refine fn_ruleM (C := ⟨Tryz.prog, layF, Tryz.f24.ntmps, ΓL, 5, [], []⟩) layF_ok mixed Tryz.func24 rfl (by kernel_rfl) rfl rfl rfl ?_
  repeat' (first | refine qgs ?_ | refine eD ?_ ?_ <;> intro)
  exact ⟨rfl, TLe.rfl, rfl, rfl⟩
theorem rput_c (st : RSt) (x : EX) (hx : st.xs.length ≤ 1000000) : W1 L 97 [gD (exD x)] (putR x) (fun k => Ti k) st := fun v st' hT X hX => by
 subst hX
 obtain rfl : { st with xs := st.xs ++ [x] } = st' := congrArg Prod.snd hT
 obtain rfl : (st.xs.length : Int) = v := congrArg Prod.fst hT
 refine fn_ruleM (C := ⟨Tryz.prog, layF, Tryz.f97.ntmps, ΓL, 5, [], []⟩) layF_ok mixed Tryz.func97 rfl (by kernel_rfl) rfl rfl rfl ?_
 repeat' (first | refine qgs ?_ | refine eD ?_ ?_ <;> intro)
 refine ex_app (st.xs.length) (1) 1000 (by first | rfl | (simp; done) | (simp; omega)) (by first | rfl | (simp; done) | (simp; omega)) rfl (by omega) ?_
 refine ex_is (List.map exD (st.xs ++ [x])) (by rw [List.map_append]; rfl) ?_
 repeat' (first | refine aI ((st.xs.length : Nat) : Int) ?_ | refine aU ((st.xs.length : Nat) : Int) ?_ | refine aB ((st.xs.length : Nat) : Int) ?_ | refine (ex_is (st.xs.length + 1) (by simp)) ?_ | refine qg1 ?_ | refine eD ?_ ?_ <;> intro)
 exact ⟨rfl, TLe.rfl, rfl, rfl⟩
theorem rlay_c (st : RSt) (x : TY) (hx : st.ts.length ≤ 1000000) (T : List TY) (hT : st.ts = T) : CallsM Tryz.prog ΓL 93 [(0, Rz L st 1 2 3 4), (4, Tr T)] 5 [P0, gD (tyD x)] (Ti st.ts.length) [(0, Rz L st 1 2 3 5), (4, .dead)] [Tr (st.ts ++ [x])] := by
 subst hT
 refine fn_ruleM (C := ⟨Tryz.prog, layF, Tryz.f93.ntmps, ΓL, 5, [], []⟩) layF_ok mixed Tryz.func93 rfl (by kernel_rfl) rfl rfl rfl ?_
 repeat' (first | refine qgs ?_ | refine eD ?_ ?_ <;> intro)
 refine ex_app (st.ts.length) (1) 1000 (by first | rfl | (simp; done) | (simp; omega)) (by first | rfl | (simp; done) | (simp; omega)) rfl (by omega) ?_
 refine ex_is (List.map tyD (st.ts ++ [x])) (by rw [List.map_append]; rfl) ?_
 repeat' (first | refine aI ((st.ts.length : Nat) : Int) ?_ | refine aU ((st.ts.length : Nat) : Int) ?_ | refine aB ((st.ts.length : Nat) : Int) ?_ | refine (ex_is (st.ts.length + 1) (by simp)) ?_ | refine qg1 ?_ | refine eD ?_ ?_ <;> intro)
 exact ⟨rfl, TLe.rfl, rfl, rfl⟩
theorem rput0_c (st : RSt) (k n : Nat) (w : List UInt8) (hx : st.xs.length ≤ 1000000) (v : Int) (st' : RSt) (hT : putR ⟨k, [], n, w, []⟩ st = (v, st')) (X : List EX) (hX : st.xs = X) :
  CallsM Tryz.prog ΓL 97 [(0, Rz L st 1 2 3 4), (3, Xr X)] 5 [P0, gD [di k, ds ⟨#[]⟩, du n, ds (bs w), dnil]] (Ti v) [(0, Rz L st' 1 2 5 4), (3, .dead)] [Xr st'.xs] :=
 ((rput_c (L := L) st ⟨k, [], n, w, []⟩ hx) v st' hT X hX).argsLe (.cons T1Le.rfl (.cons (T1Le.g (.cons DLe.rfl (.cons DLe.rfl (.cons DLe.rfl (.cons DLe.rfl (.cons DLe.nil .nil)))))) .nil))
end
end Go.Proofs.YtoingpafcodojaaGreatDoor

namespace Go.Proofs.YtoingpafcodojaaGreatDoor
open Go.RowKit

section
variable {L : List TokP}
set_option maxHeartbeats 4000000 in
theorem roperand_c (st : RSt) (h : st.i < L.length) : CallsM Tryz.prog ΓL 125 [(0, Rz L st 1 2 3 4)] 5 [P0] (Tb (beginsV L st.i)) [(0, Rz L st 1 2 3 4)] [] := by
 have hk := tk_at h
 have h1 := ris_c st h t_bang
 have h2 := ris_c st h t_lpar
 have h3 := rnamed_c st h
 unfold beginsV
 generalize isV L st.i t_bang = a at *
 generalize isV L st.i t_lpar = b at *
 generalize namedV L st.i = c at *
 generalize tk L st.i = u at *
 by_cases h5 : a = false ∧ b = false ∧ c = false
 ·obtain ⟨rfl, rfl, rfl⟩ := h5
  by_cases h4 : u.k = 1
  ·rw [decide_eq_true h4]
   refine fn_ruleM (C := ⟨Tryz.prog, layF, Tryz.f125.ntmps, ΓL, 5, [], []⟩) layF_ok mixed Tryz.func125 rfl (by kernel_rfl) rfl rfl rfl ?_
   repeat' (first | refine qgs ?_ | refine eD ?_ ?_ <;> intro)
   refine sC (CallsM.ren (h3) [0, 1, 2, 3, 4] 5 rfl rfl rfl rfl) ?_
   repeat' (first | refine qgs ?_ | refine eD ?_ ?_ <;> intro)
   refine sC (CallsM.ren (h1) [0, 1, 2, 3, 4] 5 rfl rfl rfl rfl) ?_
   repeat' (first | refine qgs ?_ | refine eD ?_ ?_ <;> intro)
   refine sC (CallsM.ren (h2) [0, 1, 2, 3, 4] 5 rfl rfl rfl rfl) ?_
   repeat' (first | refine (ex_row st.i _ rfl hk) ?_ | refine qg1 ?_ | refine eD ?_ ?_ <;> intro)
   exact ⟨rfl, TLe.rfl, rfl, rfl⟩
  ·rw [decide_eq_false h4]
   refine fn_ruleM (C := ⟨Tryz.prog, layF, Tryz.f125.ntmps, ΓL, 5, [], []⟩) layF_ok mixed Tryz.func125 rfl (by kernel_rfl) rfl rfl rfl ?_
   repeat' (first | refine qgs ?_ | refine eD ?_ ?_ <;> intro)
   refine sC (CallsM.ren (h3) [0, 1, 2, 3, 4] 5 rfl rfl rfl rfl) ?_
   repeat' (first | refine qgs ?_ | refine eD ?_ ?_ <;> intro)
   refine sC (CallsM.ren (h1) [0, 1, 2, 3, 4] 5 rfl rfl rfl rfl) ?_
   repeat' (first | refine qgs ?_ | refine eD ?_ ?_ <;> intro)
   refine sC (CallsM.ren (h2) [0, 1, 2, 3, 4] 5 rfl rfl rfl rfl) ?_
   repeat' (first | refine (ex_row st.i _ rfl hk) ?_ | refine qg1 ?_ | refine eD ?_ ?_ <;> intro)
   exact ⟨rfl, TLe.rfl, rfl, rfl⟩
 ·generalize decide (u.k = 1) = d
  cases a <;> cases b <;> cases c
  ·exact absurd ⟨rfl, rfl, rfl⟩ h5
  all_goals
   refine fn_ruleM (C := ⟨Tryz.prog, layF, Tryz.f125.ntmps, ΓL, 5, [], []⟩) layF_ok mixed Tryz.func125 rfl (by kernel_rfl) rfl rfl rfl ?_
   repeat' (first | refine qgs ?_ | refine eD ?_ ?_ <;> intro)
   refine sC (CallsM.ren (h3) [0, 1, 2, 3, 4] 5 rfl rfl rfl rfl) ?_
   repeat' (first | refine qgs ?_ | refine eD ?_ ?_ <;> intro)
   refine sC (CallsM.ren (h1) [0, 1, 2, 3, 4] 5 rfl rfl rfl rfl) ?_
   repeat' (first | refine qgs ?_ | refine eD ?_ ?_ <;> intro)
   refine sC (CallsM.ren (h2) [0, 1, 2, 3, 4] 5 rfl rfl rfl rfl) ?_
   repeat' (first | refine (ex_row st.i _ rfl hk) ?_ | refine qg1 ?_ | refine eD ?_ ?_ <;> intro)
   exact ⟨rfl, TLe.rfl, rfl, rfl⟩
end
end Go.Proofs.YtoingpafcodojaaGreatDoor

namespace Go.Proofs.YtoingpafcodojaaGreatDoor
open Go.RowKit

theorem ex_rowE {α : Type} {f : α → List D} {l : List α} {n : Int} (i : Nat) (x : α) (r : List D) (hn : n = i) (hx : l[i]? = some x) (hr : f x = r) {K : List D → Prop} (h : K r) : ∃ r, 0 ≤ n ∧ (l.map f)[n.toNat]? = some r ∧ K r := by
 subst hr
 exact ex_row i x hn hx h
section
variable {L : List TokP}
set_option maxHeartbeats 4000000 in
theorem rtyped_c (st : RSt) (h : st.i < L.length) : CallsM Tryz.prog ΓL 90 [(0, Rz L st 1 2 3 4)] 5 [P0] (Tb (startsV L st.i)) [(0, Rz L st 1 2 3 4)] [] := by
 have hk := tk_at h
 have h3 := rnamed_c st h
 unfold startsV
 generalize namedV L st.i = c at *
 generalize tk L st.i = u at *
 cases c
 ·rw [Bool.false_or]
  by_cases h4 : u.k = 0
  ·rw [decide_eq_true h4, Bool.true_and]
   obtain ⟨uk, w, un, ul, uc⟩ := u
   obtain rfl : uk = 0 := h4
   show CallsM Tryz.prog ΓL 90 [(0, Rz L st 1 2 3 4)] 5 [P0] (Tb (typesL.contains w || (integerV w).isSome)) [(0, Rz L st 1 2 3 4)] []
   have hc := (rinteger_c w).gL
   by_cases hm : w ∈ typesL
   ·rw [List.contains_iff_mem.2 hm, Bool.true_or]
    have hz : integerV w = none := by
     have : (typesL.all fun w => (integerV w).isNone) = true := by decide +kernel
     simpa using List.all_eq_true.1 this w hm
    rw [hz] at hc
    have hc : CallsA Tryz.prog ΓL 68 [c1 (ds (bs w))] (.tup [c1 (di 0), c1 (db false)]) := hc
    have hrow : ∀ {K : List D → Prop} , K [di 0, ds (bs w), du un, di ul, di uc] → ∃ r, 0 ≤ (st.i : Int) ∧ (L.map tokD)[(st.i : Int).toNat]? = some r ∧ K r := fun h => ex_rowE st.i _ _ rfl hk rfl h
    simp only [typesL, List.mem_cons, List.not_mem_nil, or_false] at hm
    rcases hm with rfl | rfl | rfl | rfl | rfl | rfl | rfl | rfl | rfl
    all_goals
     refine fn_ruleM (C := ⟨Tryz.prog, layF, Tryz.f90.ntmps, ΓL, 5, [], []⟩) layF_ok mixed Tryz.func90 rfl (by kernel_rfl) rfl rfl rfl ?_
     repeat' (first | refine qgs ?_ | refine eD ?_ ?_ <;> intro)
     refine sC (CallsM.ren (h3) [0, 1, 2, 3, 4] 5 rfl rfl rfl rfl) ?_
     repeat' (first | refine ex_call hc ?_ | refine (hrow) ?_ | refine qg1 ?_ | refine eD ?_ ?_ <;> intro)
     exact ⟨rfl, TLe.rfl, rfl, rfl⟩
   ·have hne : ∀ l, l ∈ typesL → ¬ bs w = bs l := fun l hl he => hm (by rw [bsj.1 he]; exact hl)
    rw [show typesL.contains w = false by simpa using hm, Bool.false_or]
    rcases hv : integerV w with _ | ⟨n, l⟩ <;> rw [hv] at hc
    ·have hc : CallsA Tryz.prog ΓL 68 [c1 (ds (bs w))] (.tup [c1 (di 0), c1 (db false)]) := hc
     refine fn_ruleM (C := ⟨Tryz.prog, layF, Tryz.f90.ntmps, ΓL, 5, [], []⟩) layF_ok mixed Tryz.func90 rfl (by kernel_rfl) rfl rfl rfl ?_
     repeat' (first | refine qgs ?_ | refine eD ?_ ?_ <;> intro)
     refine sC (CallsM.ren (h3) [0, 1, 2, 3, 4] 5 rfl rfl rfl rfl) ?_
     repeat' (first | refine ex_call hc ?_ | refine ex_false (hne _ (by decide)) ?_ | refine (ex_rowE st.i _ [di 0, ds (bs w), du un, di ul, di uc] rfl hk rfl) ?_ | refine qg1 ?_ | refine eD ?_ ?_ <;> intro)
     exact ⟨rfl, TLe.rfl, rfl, rfl⟩
    ·have hc : CallsA Tryz.prog ΓL 68 [c1 (ds (bs w))] (.tup [c1 (di n), c1 (db l)]) := hc
     have hn := int_pos hv
     refine fn_ruleM (C := ⟨Tryz.prog, layF, Tryz.f90.ntmps, ΓL, 5, [], []⟩) layF_ok mixed Tryz.func90 rfl (by kernel_rfl) rfl rfl rfl ?_
     repeat' (first | refine qgs ?_ | refine eD ?_ ?_ <;> intro)
     refine sC (CallsM.ren (h3) [0, 1, 2, 3, 4] 5 rfl rfl rfl rfl) ?_
     repeat' (first | refine ex_call hc ?_ | refine ex_false (hne _ (by decide)) ?_ | refine (ex_rowE st.i _ [di 0, ds (bs w), du un, di ul, di uc] rfl hk rfl) ?_ | refine qg1 ?_ | refine eD ?_ ?_ <;> intro)
     exact ⟨rfl, TLe.rfl, rfl, rfl⟩
  ·rw [decide_eq_false h4, Bool.false_and]
   refine fn_ruleM (C := ⟨Tryz.prog, layF, Tryz.f90.ntmps, ΓL, 5, [], []⟩) layF_ok mixed Tryz.func90 rfl (by kernel_rfl) rfl rfl rfl ?_
   repeat' (first | refine qgs ?_ | refine eD ?_ ?_ <;> intro)
   refine sC (CallsM.ren (h3) [0, 1, 2, 3, 4] 5 rfl rfl rfl rfl) ?_
   repeat' (first | refine (ex_row st.i _ rfl hk) ?_ | refine qg1 ?_ | refine eD ?_ ?_ <;> intro)
   exact ⟨rfl, TLe.rfl, rfl, rfl⟩
 ·rw [Bool.true_or]
  refine fn_ruleM (C := ⟨Tryz.prog, layF, Tryz.f90.ntmps, ΓL, 5, [], []⟩) layF_ok mixed Tryz.func90 rfl (by kernel_rfl) rfl rfl rfl ?_
  repeat' (first | refine qgs ?_ | refine eD ?_ ?_ <;> intro)
  refine sC (CallsM.ren (h3) [0, 1, 2, 3, 4] 5 rfl rfl rfl rfl) ?_
  repeat' (first | refine qgs ?_ | refine eD ?_ ?_ <;> intro)
  exact ⟨rfl, TLe.rfl, rfl, rfl⟩
end
end Go.Proofs.YtoingpafcodojaaGreatDoor

namespace Go.Proofs.YtoingpafcodojaaGreatDoor
open Go.RowKit

section
variable {L : List TokP} {m : Nat}
section
variable {α β : Type} {p : Nat → Bool} {x y : RM α} {f : α → RM β} {st st1 st2 : RSt}
theorem atRy {T : α × RSt} (hT : atR p x y st = T) (h : p st.i = true) : x st = T := (if_pos h).symm.trans hT
theorem atRn {T : α × RSt} (hT : atR p x y st = T) (h : p st.i = false) : y st = T := (if_neg (by rw [h]; decide)).symm.trans hT
theorem atRyB {T : β × RSt} (hT : (atR p x y >>= f) st = T) (h : p st.i = true) : (x >>= f) st = T := by
 rw [← hT]
 show RM.and _ _ _ = RM.and _ _ _
 unfold RM.and atR
 rw [if_pos h]
theorem atRnB {T : β × RSt} (hT : (atR p x y >>= f) st = T) (h : p st.i = false) : (y >>= f) st = T := by
 rw [← hT]
 show RM.and _ _ _ = RM.and _ _ _
 unfold RM.and atR
 rw [if_neg (by rw [h]; decide)]
theorem gdRy {v : α} {T : α × RSt} (hT : guardR v x st = T) (h : st.err = 0) : x st = T := (if_pos h).symm.trans hT
theorem gdRn {v : α} {T : α × RSt} (hT : guardR v x st = T) (h : st.err ≠ 0) : (v, st) = T := (if_neg h).symm.trans hT
theorem gdRyB {v : α} {T : β × RSt} (hT : (guardR v x >>= f) st = T) (h : st.err = 0) : (x >>= f) st = T := by
 rw [← hT]
 show RM.and _ _ _ = RM.and _ _ _
 unfold RM.and guardR
 rw [if_pos h]
theorem gdRnB {v : α} {T : β × RSt} (hT : (guardR v x >>= f) st = T) (h : st.err ≠ 0) : f v st = T := by
 rw [← hT]
 show _ = RM.and _ _ _
 unfold RM.and guardR
 rw [if_neg h]
theorem deep_eq {u : Unit} {k : α} (h1 : enterR (p st.i) st = (u, st1)) (h2 : x st1 = (k, st2)) : deepR p x st = (k, { st2 with dep := st2.dep - 1 }) := by
 unfold deepR
 show ((x (enterR (p st.i) st).2).1, { (x (enterR (p st.i) st).2).2 with dep := (x (enterR (p st.i) st).2).2.dep - 1 }) = _
 rw [h1]
 dsimp only
 rw [h2]
end
theorem Gd.fresh {q b : Nat} {st : RSt} (h : Gd L m q b st) (he : st.err = 0) (b' : Nat) : Gd L m q b' st := by
 have h1 := gd_emb (m := m) (b := b') (h.ok he)
 rwa [← h.emb he] at h1
theorem Gd.enter {q b : Nat} {st st1 : RSt} {u : Unit} {may : Bool} (h : Gd L m q b st) (hx : enterR may st = (u, st1)) : (∃ m', m = m' + 1 ∧ Gd L m' q (b + 1) st1) ∨ (st1.err ≠ 0 ∧ st1.i = st.i ∧ st1.xs = st.xs ∧ st1.ts = st.ts ∧ st1.dep = st.dep ∧ st1.err ≤ 10) := by
 unfold enterR guardR at hx
 by_cases he : st.err = 0
 ·rw [if_pos he] at hx
  dsimp only at hx
  by_cases hm : may = false
  ·rw [if_pos hm] at hx
   obtain rfl := congrArg Prod.snd hx
   exact .inr ⟨by show (4 : Nat) ≠ 0; decide, rfl, rfl, rfl, rfl, by show 4 ≤ 10; decide⟩
  ·rw [if_neg hm] at hx
   by_cases hd : 32 ≤ st.dep
   ·rw [if_pos hd] at hx
    obtain rfl := congrArg Prod.snd hx
    exact .inr ⟨by show (8 : Nat) ≠ 0; decide, rfl, rfl, rfl, rfl, by show 8 ≤ 10; decide⟩
   ·rw [if_neg hd] at hx
    obtain rfl := congrArg Prod.snd hx
    have h1 := h.dep he
    refine .inl ⟨m - 1, by omega, ?_⟩
    exact ⟨h.i, by have := h.x; show st.xs.length ≤ _; omega, by have := h.t; show st.ts.length ≤ _; omega, by have := h.d1; show _ ≤ st.dep + 1; omega, by show st.dep + 1 ≤ _; omega, h.e, fun _ => by show st.dep + 1 = _; omega, fun _ => h.ok he⟩
 ·rw [if_neg he] at hx
  obtain rfl : st = st1 := congrArg Prod.snd hx
  exact .inr ⟨he, rfl, rfl, rfl, rfl, h.e⟩
theorem startR1 {st : RSt} : SLe 5 ⟨argTm 0 [P0], [(3, .dead), (0, Rz L st 1 2 5 4), (5, Xr st.xs)], 6⟩ ⟨argTm 0 [P0], [(0, Rz L st 1 2 3 4), (3, Xr st.xs)], 5⟩ :=
 SLe.kill (nx := 6) 3 (sR [(0, 0), (1, 1), (2, 2), (3, 5), (4, 4)])
theorem startR1i {st : RSt} {n : Int} : SLe 5 ⟨argTm 0 [P0, c1 (di n)], [(3, .dead), (0, Rz L st 1 2 5 4), (5, Xr st.xs)], 6⟩ ⟨argTm 0 [P0, c1 (di n)], [(0, Rz L st 1 2 3 4), (3, Xr st.xs)], 5⟩ :=
 SLe.kill (nx := 6) 3 (sR [(0, 0), (1, 1), (2, 2), (3, 5), (4, 4)])
theorem runary_err {y : RM Int} {st : RSt} (he : st.err ≠ 0) (h10 : st.err ≤ 10) (hy : y st = (0, st)) : W1 L 95 [] y (fun k => Ti k) st := fun v st' hT X hX => by
 subst hX
 rw [hy] at hT
 obtain rfl : (0 : Int) = v := congrArg Prod.fst hT
 obtain rfl : st = st' := congrArg Prod.snd hT
 refine fn_ruleP (C := ⟨Tryz.prog, layF, Tryz.f95.ntmps, ΓL, 5, [], []⟩) layF_ok mixed Tryz.func95 rfl (by kernel_rfl) rfl rfl rfl startR1 ?_
 repeat' (first | refine qgs ?_ | refine eD ?_ ?_ <;> intro)
 exact ⟨rfl, TLe.rfl, rfl, rfl⟩
theorem rexpr_err {y : RM Int} {st : RSt} {n : Int} (he : st.err ≠ 0) (h10 : st.err ≤ 10) (hy : y st = (0, st)) : W1 L 71 [c1 (di n)] y (fun k => Ti k) st := fun v st' hT X hX => by
 subst hX
 rw [hy] at hT
 obtain rfl : (0 : Int) = v := congrArg Prod.fst hT
 obtain rfl : st = st' := congrArg Prod.snd hT
 refine fn_ruleP (C := ⟨Tryz.prog, layF, Tryz.f71.ntmps, ΓL, 5, [], []⟩) layF_ok mixed Tryz.func71 rfl (by kernel_rfl) rfl rfl rfl startR1i ?_
 repeat' (first | refine qgs ?_ | refine eD ?_ ?_ <;> intro)
 exact ⟨rfl, TLe.rfl, rfl, rfl⟩
set_option maxHeartbeats 4000000 in
theorem runary_step (hL : TokOk L) (hn : L.length ≤ 100000) (hm : m ≤ 32) {un ex : RM Int} {un0 ex0 : PM Int} (s1 : ∀ m', m = m' + 1 → Sim L m' un0 un 0 0 400 0) (s2 : ∀ m', m = m' + 1 → Sim L m' ex0 ex 0 0 400 0)
  (b1 : ∀ st, st.err ≠ 0 → un st = (0, st)) (b2 : ∀ st, st.err ≠ 0 → ex st = (0, st))
  (h1 : ∀ m', m = m' + 1 → ∀ st, Gd L m' 0 1000 st → W1 L 95 [] un (fun k => Ti k) st)
  (h2 : ∀ m', m = m' + 1 → ∀ st, Gd L m' 0 1000 st → W1 L 71 [c1 (di 1)] ex (fun k => Ti k) st) (st : RSt) (hg : Gd L m 0 1000 st) : W1 L 95 [] (unR L un ex) (fun k => Ti k) st := fun v st' hT X hX => by
 subst hX
 have kx_st : st.xs = st.xs := rfl
 have kt_st : st.ts = st.ts := rfl
 have hi := hg.i
 have hxb := hg.x
 have h10 := hg.e
 by_cases he : st.err = 0
 ·replace hT := gdRy hT he
  have hg0 := hg.fresh he 400
  have i1 := ris_c st hi t_bang
  rcases hv : isV L st.i t_bang with _ | _ <;> rw [hv] at i1
  ·replace hT := atRn hT hv
   have i2 := ris_c st hi t_lpar
   rcases hv2 : isV L st.i t_lpar with _ | _ <;> rw [hv2] at i2
   ·replace hT := atRn hT hv2
    have i3 := rnamed_c st hi
    rcases hv3 : namedV L st.i with _ | _ <;> rw [hv3] at i3
    ·replace hT := atRn hT hv3
     refine fn_ruleP (C := ⟨Tryz.prog, layF, Tryz.f95.ntmps, ΓL, 5, [], []⟩) layF_ok mixed Tryz.func95 rfl (by kernel_rfl) rfl rfl rfl startR1 ?_
     repeat' (first | refine qgs ?_ | refine eD ?_ ?_ <;> intro)
     refine sC (CallsM.ren (i1) [0, 1, 2, 5, 4] 6 rfl rfl rfl rfl) ?_
     repeat' (first | refine qgs ?_ | refine eD ?_ ?_ <;> intro)
     refine sC (CallsM.ren (i2) [0, 1, 2, 5, 4] 6 rfl rfl rfl rfl) ?_
     repeat' (first | refine qgs ?_ | refine eD ?_ ?_ <;> intro)
     refine sC (CallsM.ren (i3) [0, 1, 2, 5, 4] 6 rfl rfl rfl rfl) ?_
     repeat' (first | refine qgs ?_ | refine eD ?_ ?_ <;> intro)
     rcases hx : (numberR L) (st) with ⟨n, st1⟩
     replace hT := (rand hx).symm.trans hT
     refine sC (CallsM.ren ((rnum_c st hi hn) _ _ hx) [0, 1, 2, 5, 4] 6 rfl rfl rfl rfl) ?_
     have kx_st1 := (keep_num hx).1.trans kx_st
     have kt_st1 := (keep_num hx).2.trans kt_st
     have hg1 := (Sim.number (m := m) hL 0).gd hg0 (by omega) hx
     have hx1 := hg1.x
     repeat' (first | refine qgs ?_ | refine eD ?_ ?_ <;> intro)
     refine sC (CallsM.ren ((rput0_c st1 0 n [] (by omega) _ _ hT _ kx_st1)) [0, 1, 2, 5, 4] 6 rfl rfl rfl rfl) ?_
     repeat' (first | refine qgs ?_ | refine eD ?_ ?_ <;> intro)
     exact ⟨rfl, TLe.rfl, rfl, rfl⟩
    ·replace hT := atRy hT hv3
     refine fn_ruleP (C := ⟨Tryz.prog, layF, Tryz.f95.ntmps, ΓL, 5, [], []⟩) layF_ok mixed Tryz.func95 rfl (by kernel_rfl) rfl rfl rfl startR1 ?_
     repeat' (first | refine qgs ?_ | refine eD ?_ ?_ <;> intro)
     refine sC (CallsM.ren (i1) [0, 1, 2, 5, 4] 6 rfl rfl rfl rfl) ?_
     repeat' (first | refine qgs ?_ | refine eD ?_ ?_ <;> intro)
     refine sC (CallsM.ren (i2) [0, 1, 2, 5, 4] 6 rfl rfl rfl rfl) ?_
     repeat' (first | refine qgs ?_ | refine eD ?_ ?_ <;> intro)
     refine sC (CallsM.ren (i3) [0, 1, 2, 5, 4] 6 rfl rfl rfl rfl) ?_
     repeat' (first | refine qgs ?_ | refine eD ?_ ?_ <;> intro)
     rcases hx : (nameR L) (st) with ⟨w, st1⟩
     replace hT := (rand hx).symm.trans hT
     refine sC (CallsM.ren ((rname_c st hi hn) _ _ hx) [0, 1, 2, 5, 4] 6 rfl rfl rfl rfl) ?_
     have kx_st1 := (keep_name hx).1.trans kx_st
     have kt_st1 := (keep_name hx).2.trans kt_st
     have hg1 := (Sim.name (m := m) hL 0).gd hg0 (by omega) hx
     have hx1 := hg1.x
     repeat' (first | refine qgs ?_ | refine eD ?_ ?_ <;> intro)
     refine sC (CallsM.ren ((rput0_c st1 1 0 w (by omega) _ _ hT _ kx_st1)) [0, 1, 2, 5, 4] 6 rfl rfl rfl rfl) ?_
     repeat' (first | refine qgs ?_ | refine eD ?_ ?_ <;> intro)
     exact ⟨rfl, TLe.rfl, rfl, rfl⟩
   ·replace hT := atRy hT hv2
    refine fn_ruleP (C := ⟨Tryz.prog, layF, Tryz.f95.ntmps, ΓL, 5, [], []⟩) layF_ok mixed Tryz.func95 rfl (by kernel_rfl) rfl rfl rfl startR1 ?_
    repeat' (first | refine qgs ?_ | refine eD ?_ ?_ <;> intro)
    refine sC (CallsM.ren (i1) [0, 1, 2, 5, 4] 6 rfl rfl rfl rfl) ?_
    repeat' (first | refine qgs ?_ | refine eD ?_ ?_ <;> intro)
    refine sC (CallsM.ren (i2) [0, 1, 2, 5, 4] 6 rfl rfl rfl rfl) ?_
    repeat' (first | refine qgs ?_ | refine eD ?_ ?_ <;> intro)
    rcases hx : (takeR L t_lpar) (st) with ⟨_, st1⟩
    replace hT := (rand hx).symm.trans hT
    refine sC (CallsM.ren ((rtake_c st hi hn t_lpar) _ _ hx) [0, 1, 2, 5, 4] 6 rfl rfl rfl rfl) ?_
    have kx_st1 := (keep_take hx).1.trans kx_st
    have kt_st1 := (keep_take hx).2.trans kt_st
    have hg1 := (Sim.take (m := m) hL t_lpar 0).gd hg0 (by omega) hx
    rcases hent : enterR (beginsV L st1.i) st1 with ⟨u, st2⟩
    rcases hun : ex st2 with ⟨k, st3⟩
    have hde := deep_eq (p := (beginsV L ·)) hent hun
    have hg4 := (Sim.deep (m := m) (p := (beginsV L ·)) (x := ex0) (y := ex) (a := 1) (b := 1) (c := 400) (fun m' e => (s2 m' e).less 1 (by omega) (by omega)) (fun s hs => by rw [b2 s hs]; exact Stay.rfl) (fun _ => Nat.le_refl _) (by omega)).gd hg1 (by omega) hde
    have hin : W1 L 71 [c1 (di 1)] ex (fun k => Ti k) st2 := by
     rcases hg1.enter hent with ⟨m', e, hg2⟩ | ⟨e1, e2, e3, e4, e5, e6⟩
     ·exact h2 m' e st2 (hg2.le (by omega) (by omega))
     ·exact rexpr_err e1 e6 (b2 st2 e1)
    replace hT := (rand hde).symm.trans hT
    have hd1 := hg1.d1
    have hd2 := hg1.d2
    have hd4 := hg4.d1
    have hd5 := hg4.d2
    have hd4 : 32 - (m : Int) - ((401 : Nat) : Int) ≤ st3.dep - 1 := hd4
    have hd5 : st3.dep - 1 ≤ 32 - (m : Int) := hd5
    repeat' (first | refine qgs ?_ | refine eD ?_ ?_ <;> intro)
    refine sC (CallsM.ren ((roperand_c st1 hg1.i)) [0, 1, 2, 5, 4] 6 rfl rfl rfl rfl) ?_
    repeat' (first | refine qgs ?_ | refine eD ?_ ?_ <;> intro)
    refine sC (CallsM.ren ((renter_c (L := L) st1 (by omega) (by omega) _ _ _ hent)) [0, 1, 2, 5, 4] 6 rfl rfl rfl rfl) ?_
    repeat' (first | refine qgs ?_ | refine eD ?_ ?_ <;> intro)
    refine sC (CallsM.ren ((hin _ _ hun _ ((keep_enter hent).1.trans kx_st1))) [0, 1, 2, 5, 4] 6 rfl rfl rfl rfl) ?_
    repeat' (first | refine qgs ?_ | refine eD ?_ ?_ <;> intro)
    rcases hx4 : (takeR L t_rpar) ({ st3 with dep := st3.dep - 1 }) with ⟨_, st5⟩
    replace hT := (rand hx4).symm.trans hT
    refine sC (CallsM.ren ((rtake_c { st3 with dep := st3.dep - 1 } hg4.i hn t_rpar) _ _ hx4) [0, 1, 2, 6, 4] 7 rfl rfl rfl rfl) ?_
    have kx_st5 := (keep_take hx4).1.trans rfl
    have kt_st5 := (keep_take hx4).2.trans rfl
    obtain rfl : st5 = st' := congrArg Prod.snd hT
    obtain rfl : k = v := congrArg Prod.fst hT
    repeat' (first | refine qgs ?_ | refine eD ?_ ?_ <;> intro)
    rw [kx_st5]
    exact ⟨rfl, TLe.rfl, rfl, rfl⟩
  ·replace hT := atRy hT hv
   refine fn_ruleP (C := ⟨Tryz.prog, layF, Tryz.f95.ntmps, ΓL, 5, [], []⟩) layF_ok mixed Tryz.func95 rfl (by kernel_rfl) rfl rfl rfl startR1 ?_
   repeat' (first | refine qgs ?_ | refine eD ?_ ?_ <;> intro)
   refine sC (CallsM.ren (i1) [0, 1, 2, 5, 4] 6 rfl rfl rfl rfl) ?_
   repeat' (first | refine qgs ?_ | refine eD ?_ ?_ <;> intro)
   rcases hx : (takeR L t_bang) (st) with ⟨_, st1⟩
   replace hT := (rand hx).symm.trans hT
   refine sC (CallsM.ren ((rtake_c st hi hn t_bang) _ _ hx) [0, 1, 2, 5, 4] 6 rfl rfl rfl rfl) ?_
   have kx_st1 := (keep_take hx).1.trans kx_st
   have kt_st1 := (keep_take hx).2.trans kt_st
   have hg1 := (Sim.take (m := m) hL t_bang 0).gd hg0 (by omega) hx
   rcases hent : enterR (beginsV L st1.i) st1 with ⟨u, st2⟩
   rcases hun : un st2 with ⟨k, st3⟩
   have hde := deep_eq (p := (beginsV L ·)) hent hun
   have hg4 := (Sim.deep (m := m) (p := (beginsV L ·)) (x := un0) (y := un) (a := 1) (b := 1) (c := 400) (fun m' e => (s1 m' e).less 1 (by omega) (by omega)) (fun s hs => by rw [b1 s hs]; exact Stay.rfl) (fun _ => Nat.le_refl _) (by omega)).gd hg1 (by omega) hde
   have hin : W1 L 95 [] un (fun k => Ti k) st2 := by
    rcases hg1.enter hent with ⟨m', e, hg2⟩ | ⟨e1, e2, e3, e4, e5, e6⟩
    ·exact h1 m' e st2 (hg2.le (by omega) (by omega))
    ·exact runary_err e1 e6 (b1 st2 e1)
   replace hT := (rand hde).symm.trans hT
   have hd1 := hg1.d1
   have hd2 := hg1.d2
   have hd4 := hg4.d1
   have hd5 := hg4.d2
   have hd4 : 32 - (m : Int) - ((401 : Nat) : Int) ≤ st3.dep - 1 := hd4
   have hd5 : st3.dep - 1 ≤ 32 - (m : Int) := hd5
   have hx4 := hg4.x
   repeat' (first | refine qgs ?_ | refine eD ?_ ?_ <;> intro)
   refine sC (CallsM.ren ((roperand_c st1 hg1.i)) [0, 1, 2, 5, 4] 6 rfl rfl rfl rfl) ?_
   repeat' (first | refine qgs ?_ | refine eD ?_ ?_ <;> intro)
   refine sC (CallsM.ren ((renter_c (L := L) st1 (by omega) (by omega) _ _ _ hent)) [0, 1, 2, 5, 4] 6 rfl rfl rfl rfl) ?_
   repeat' (first | refine qgs ?_ | refine eD ?_ ?_ <;> intro)
   refine sC (CallsM.ren ((hin _ _ hun _ ((keep_enter hent).1.trans kx_st1))) [0, 1, 2, 5, 4] 6 rfl rfl rfl rfl) ?_
   repeat' (first | refine qgs ?_ | refine eD ?_ ?_ <;> intro)
   refine sC (CallsM.ren (((rput_c (L := L) { st3 with dep := st3.dep - 1 } ⟨2, [], 0, [], [k]⟩ (by omega)) _ _ hT _ rfl)) [0, 1, 2, 6, 4] 8 rfl rfl rfl rfl) ?_
   repeat' (first | refine qgs ?_ | refine eD ?_ ?_ <;> intro)
   exact ⟨rfl, TLe.rfl, rfl, rfl⟩
 ·exact runary_err he h10 ((if_neg he)) v st' hT _ rfl
end
end Go.Proofs.YtoingpafcodojaaGreatDoor

namespace Go.Proofs.YtoingpafcodojaaGreatDoor
open Go.RowKit

section
variable {L : List TokP} {m : Nat}
theorem Gd.step (hL : TokOk L) {q b : Nat} {st : RSt} (h : Gd L m q b st) (he : st.err = 0) (hk : (tk L st.i).k ≠ 3) (b' : Nat) : Gd L m (q + 1) b' { st with i := st.i + 1 } := by
 have h1 := gd_emb (m := m) (b := b') (stepP_ok hL (h.ok he) hk)
 have h2 := h.emb he
 obtain ⟨i, dep, err, xs, ts⟩ := st
 obtain rfl : err = 0 := he
 have h3 := h.dep rfl
 obtain rfl : dep = 32 - (m : Int) := h3
 exact h1
theorem Sim.grow {α : Type} {x : PM α} {y : RM α} {a a' c d b : Nat} (h : Sim L m x y a a' c d) {st st' : RSt} {v : α} (hg : Gd L m a b st) (hx : y st = (v, st')) (he : st'.err = 0) : st.err = 0 ∧ st.i ≤ st'.i := by
 by_cases h0 : st.err = 0
 ·have hs := hg.ok h0
  have h1 := h.ok 0 _ (by rw [Nat.zero_add]; exact hs)
  have hu := h.up _ 0 (by rw [Nat.zero_add]; exact hs)
  rw [← hg.emb h0] at h1
  revert h1 hu
  cases x ⟨st.i, st.xs, st.ts⟩ with
  | ok w t =>
   intro h1 hu
   dsimp only at h1 hu
   rw [hx] at h1
   cases h1
   exact ⟨h0, hu.2⟩
  | err i e =>
   intro h1 hu
   dsimp only at h1 hu
   rw [hx] at h1
   have h1 : Bad L m c i e st' := h1
   rw [h1.e] at he
   omega
 ·have h1 := h.bad st h0
  rw [hx] at h1
  have h1 : Stay d st st' := h1
  exact absurd (h1.e.symm.trans he) h0
theorem lineNR_err {lv : Nat} {x : RM Int} {s : RSt} (h : s.err ≠ 0) (n : Nat) (left : Int) : lineNR L lv x n left s = (left, s) := by
 cases n with
 | zero => rfl
 | succ n => exact if_neg h
set_option maxHeartbeats 4000000 in
theorem rline_step (hL : TokOk L) (hn : L.length ≤ 100000) (hm : m ≤ 32) (j : Nat) (hj : j ≤ 7) {x : RM Int} {x0 : PM Int} (sx : Sim L m x0 x 0 0 400 0) (hc : ∀ st, Gd L m 0 1000 st → W1 L 71 [c1 (di (9 - (j : Int)))] x (fun k => Ti k) st)
  (st : RSt) (hg : Gd L m 0 1000 st) : W1 L 71 [c1 (di (9 - ((j + 1 : Nat) : Int)))] (guardR 0 (x >>= fun left => fun s => lineNR L (8 - j) x (L.length - s.i + 1) left s)) (fun k => Ti k) st := fun v st' hT X hX => by
 subst hX
 have kx_st : st.xs = st.xs := rfl
 have kt_st : st.ts = st.ts := rfl
 have h10 := hg.e
 by_cases he : st.err = 0
 ·replace hT := gdRy hT he
  refine fn_ruleP (C := ⟨Tryz.prog, layF, Tryz.f71.ntmps, ΓL, 5, [], []⟩) layF_ok mixed Tryz.func71 rfl (by kernel_rfl) rfl rfl rfl startR1i ?_
  repeat' (first | refine aI (9 - (j : Int)) ?_ | refine aU (9 - (j : Int)) ?_ | refine aB (9 - (j : Int)) ?_ | refine qg1 ?_ | refine eD ?_ ?_ <;> intro)
  rcases hx1 : (x) (st) with ⟨left, st1⟩
  replace hT := (rand hx1).symm.trans hT
  refine sC (CallsM.ren ((hc st hg) _ _ hx1 _ kx_st) [0, 1, 2, 5, 4] 6 rfl rfl rfl rfl) ?_
  have kx_st1 : st1.xs = st1.xs := rfl
  skip
  have hg1 := sx.gd (hg.fresh he 400) (by omega) hx1
  have hi1 := hg1.i
  repeat' (first | refine qgs ?_ | refine eD ?_ ?_ <;> intro)
  refine ex_loop (X := RSt × Int × Nat) (fun ⟨s, left, _⟩ => ⟨[(0, .o P0), (1, Ti (9 - ((j + 1 : Nat) : Int))), (5, Ti left)], [(0, Rz L s 1 2 6 4), (3, .dead), (5, .dead), (6, Xr s.xs)], 7⟩) (fun y => y.2.2)
   (fun ⟨s, left, n⟩ => Gd L m 0 500 s ∧ (s.err = 0 → L.length < s.i + n) ∧ lineNR L (8 - j) x n left s = (v, st')) (st1, left, L.length - st1.i + 1) ⟨hg1.le (by omega) (by omega), fun _ => by omega, hT⟩ sS ?_
  clear hT hx1 hg1 hi1 kx_st1
  rintro ⟨s, left, n⟩ ⟨hs, hf, hT⟩
  have hi := hs.i
  have hse10 := hs.e
  by_cases hse : s.err = 0
  ·have hf := hf hse
   cases n with
   | zero => omega
   | succ n =>
    replace hT := gdRy hT hse
    have hk := tk_at hi
    by_cases h2 : (tk L s.i).k = 2
    ·have hlv := (rlevel_c (tk L s.i).t).gL
     by_cases h3 : levelV (tk L s.i).t = 8 - j
     ·have ho : opAt L (8 - j) s.i = true := by unfold opAt; rw [decide_eq_true h2, decide_eq_true h3]; rfl
      have hgs := hs.step hL hse (by omega) 400
      replace hT := atRy hT ho
      replace hT : (x >>= fun right => putR ⟨3, (tk L s.i).t, 0, [], [left, right]⟩ >>= fun k => lineNR L (8 - j) x n k) { s with i := s.i + 1 } = (v, st') := hT
      generalize tk L s.i = u at *
      repeat' (first | refine ex_call hlv ?_ | refine aI (9 - (j : Int)) ?_ | refine aU (9 - (j : Int)) ?_ | refine aB (9 - (j : Int)) ?_ | refine aI ((s.i + 1 : Nat) : Int) ?_ | refine aU ((s.i + 1 : Nat) : Int) ?_ | refine aB ((s.i + 1 : Nat) : Int) ?_ | refine (ex_row s.i u rfl hk) ?_ | refine qg1 ?_ | refine eD ?_ ?_ <;> intro)
      rcases hx2 : (x) ({ s with i := s.i + 1 }) with ⟨right, s2⟩
      replace hT := (rand hx2).symm.trans hT
      refine sC (CallsM.ren ((hc { s with i := s.i + 1 } (hgs.le (by omega) (by omega))) _ _ hx2 _ rfl) [0, 1, 2, 6, 4] 7 rfl rfl rfl rfl) ?_
      have kx_s2 : s2.xs = s2.xs := rfl
      skip
      have hg2 := (sx.less (a' := 1) (b' := 1) 1 (by omega) (by omega)).gd hgs (by omega) hx2
      have hx2l := hg2.x
      have hgr := (sx.less (a' := 1) (b' := 1) 1 (by omega) (by omega)).grow hgs hx2
      repeat' (first | refine qgs ?_ | refine eD ?_ ?_ <;> intro)
      replace hT : lineNR L (8 - j) x n s2.xs.length { s2 with xs := s2.xs ++ [⟨3, u.t, 0, [], [left, right]⟩] } = (v, st') := hT
      refine sC (CallsM.ren (((rput_c (L := L) s2 ⟨3, u.t, 0, [], [left, right]⟩ (by omega)) _ _ rfl _ kx_s2)) [0, 1, 2, 7, 4] 9 rfl rfl rfl rfl) ?_
      repeat' (first | refine qgs ?_ | refine eD ?_ ?_ <;> intro)
      have hg3 := (Sim.put (L := L) (m := m) ⟨3, u.t, 0, [], [left, right]⟩ 0).gd hg2 (by omega) rfl
      exact ex_round ({ s2 with xs := s2.xs ++ [⟨3, u.t, 0, [], [left, right]⟩] }, (s2.xs.length : Int), n) ⟨hg3.le (by omega) (by omega), fun h0 => by
       have h9 : s.i + 1 ≤ s2.i := (hgr h0).2
       show L.length < s2.i + n
       omega, hT⟩ (by show n < n + 1; omega) (sR [(0, 0), (1, 1), (2, 2), (3, 3), (4, 4), (5, 5), (9, 6)])
     ·have ho : opAt L (8 - j) s.i = false := by unfold opAt; rw [decide_eq_false h3]; simp
      replace hT := atRn hT ho
      obtain rfl : left = v := congrArg Prod.fst hT
      obtain rfl : s = st' := congrArg Prod.snd hT
      generalize tk L s.i = u at *
      repeat' (first | refine ex_call hlv ?_ | refine (ex_row s.i u rfl hk) ?_ | refine qg1 ?_ | refine eD ?_ ?_ <;> intro)
      exact ⟨rfl, TLe.rfl, rfl, rfl⟩
    ·have hlv := (rlevel_c (tk L s.i).t).gL
     have ho : opAt L (8 - j) s.i = false := by unfold opAt; rw [decide_eq_false h2]; rfl
     replace hT := atRn hT ho
     obtain rfl : left = v := congrArg Prod.fst hT
     obtain rfl : s = st' := congrArg Prod.snd hT
     generalize tk L s.i = u at *
     repeat' (first | refine ex_call hlv ?_ | refine (ex_row s.i u rfl hk) ?_ | refine qg1 ?_ | refine eD ?_ ?_ <;> intro)
     exact ⟨rfl, TLe.rfl, rfl, rfl⟩
  ·rw [lineNR_err hse] at hT
   obtain rfl : left = v := congrArg Prod.fst hT
   obtain rfl : s = st' := congrArg Prod.snd hT
   repeat' (first | refine qgs ?_ | refine eD ?_ ?_ <;> intro)
   exact ⟨rfl, TLe.rfl, rfl, rfl⟩
 ·exact rexpr_err he h10 (if_neg he) v st' hT _ rfl
theorem rline0_c {un : RM Int} (st : RSt) (hg : Gd L m 0 1000 st) (hc : W1 L 95 [] un (fun k => Ti k) st) : W1 L 71 [c1 (di (9 - ((0 : Nat) : Int)))] (guardR 0 un) (fun k => Ti k) st := fun v st' hT X hX => by
 subst hX
 have kx_st : st.xs = st.xs := rfl
 by_cases he : st.err = 0
 ·replace hT := gdRy hT he
  refine fn_ruleP (C := ⟨Tryz.prog, layF, Tryz.f71.ntmps, ΓL, 5, [], []⟩) layF_ok mixed Tryz.func71 rfl (by kernel_rfl) rfl rfl rfl startR1i ?_
  repeat' (first | refine qgs ?_ | refine eD ?_ ?_ <;> intro)
  refine sC (CallsM.ren ((hc) _ _ hT _ kx_st) [0, 1, 2, 5, 4] 6 rfl rfl rfl rfl) ?_
  repeat' (first | refine qgs ?_ | refine eD ?_ ?_ <;> intro)
  exact ⟨rfl, TLe.rfl, rfl, rfl⟩
 ·exact rexpr_err he hg.e (if_neg he) v st' hT _ rfl
theorem rline_c (hL : TokOk L) (hn : L.length ≤ 100000) (hm : m ≤ 32) {un : RM Int} {un0 : PM Int} {c : Nat} (su : Sim L m un0 un 0 0 c 0) (hcc : c + 8 ≤ 400) (hc : ∀ st, Gd L m 0 1000 st → W1 L 95 [] un (fun k => Ti k) st) :
  ∀ j : Nat, j ≤ 8 → ∀ st, Gd L m 0 1000 st → W1 L 71 [c1 (di (9 - (j : Int)))] (lineJR L un j) (fun k => Ti k) st
 | 0, _, st, hg => rline0_c st hg (hc st hg)
 | j + 1, hj, st, hg => rline_step hL hn hm j (by omega) ((sim_lineJ hL su j).le (by omega) (by omega)) (rline_c hL hn hm su hcc hc j (by omega)) st hg
theorem unRm_err : ∀ m (st : RSt), st.err ≠ 0 → unRm L m st = (0, st)
 | 0, st, h => if_neg h
 | m + 1, st, h => if_neg h
theorem lineJR_err {un : RM Int} : ∀ j (st : RSt), st.err ≠ 0 → lineJR L un j st = (0, st)
 | 0, st, h => if_neg h
 | j + 1, st, h => if_neg h
theorem runary_c (hL : TokOk L) (hn : L.length ≤ 100000) : ∀ m, m ≤ 32 → ∀ st, Gd L m 0 1000 st → W1 L 95 [] (unRm L m) (fun k => Ti k) st
 | 0, hm, st, hg => runary_step hL hn hm (un0 := pure 0) (ex0 := pure 0) (fun _ h => by omega) (fun _ h => by omega) (fun _ _ => rfl) (fun _ _ => rfl) (fun _ h => by omega) (fun _ h => by omega) st hg
 | m + 1, hm, st, hg => runary_step hL hn hm (un0 := unM L m) (ex0 := lineJ L (unM L m) 8) (fun m' h => by
    obtain rfl : m = m' := by omega
    exact (sim_unM hL m).le (by omega) (Nat.le_refl _)) (fun m' h => by
    obtain rfl : m = m' := by omega
    exact (sim_lineJ hL (sim_unM hL m) 8).le (by omega) (Nat.le_refl _)) (unRm_err m) (lineJR_err 8) (fun m' h st hg => by
    obtain rfl : m = m' := by omega
    exact runary_c hL hn m (by omega) st hg) (fun m' h st hg => by
    obtain rfl : m = m' := by omega
    exact rline_c hL hn (by omega) (sim_unM hL m) (by omega) (runary_c hL hn m (by omega)) 8 (Nat.le_refl _) st hg) st hg
theorem rexpr_c (hL : TokOk L) (hn : L.length ≤ 100000) (hm : m ≤ 32) (st : RSt) (hg : Gd L m 0 1000 st) : W1 L 71 [c1 (di 1)] (exprR L m) (fun k => Ti k) st :=
 rline_c hL hn hm (sim_unM hL m) (by omega) (runary_c hL hn m hm) 8 (Nat.le_refl _) st hg
end
end Go.Proofs.YtoingpafcodojaaGreatDoor

namespace Go.Proofs.YtoingpafcodojaaGreatDoor
open Go.RowKit

section
variable {L : List TokP} {m : Nat}
def KeepT {α : Type} (y : RM α) : Prop := ∀ st, (y st).2.ts = st.ts
section
variable {α β : Type} {x y : RM α} {f : α → RM β} {p : Nat → Bool}
theorem KeepT.eq (h : KeepT y) {st st1 : RSt} {v : α} (hx : y st = (v, st1)) : st1.ts = st.ts := by have := h st; rw [hx] at this; exact this
theorem KeepT.and (hx : KeepT x) (hf : ∀ v, KeepT (f v)) : KeepT (x >>= f) := fun st => (hf _ _).trans (hx st)
theorem KeepT.pure (v : α) : KeepT (pure v : RM α) := fun _ => rfl
theorem KeepT.guard (h : KeepT y) (v : α) : KeepT (guardR v y) := fun st => by
 unfold guardR
 by_cases he : st.err = 0
 ·rw [if_pos he]; exact h st
 ·rw [if_neg he]
theorem KeepT.at (hx : KeepT x) (hy : KeepT y) : KeepT (atR p x y) := fun st => by
 unfold atR
 by_cases he : p st.i = true
 ·rw [if_pos he]; exact hx st
 ·rw [if_neg he]; exact hy st
theorem KeepT.look {f : RSt → RM α} (h : ∀ s, KeepT (f s)) : KeepT (fun s => f s s) := fun st => h st st
theorem KeepT.deep (h : KeepT y) : KeepT (deepR p y) := KeepT.and (x := fun s => enterR (p s.i) s) (fun st => (keep_enter (v := (enterR (p st.i) st).1) rfl).2) fun _ => h.and fun _ => KeepT.and (x := leaveR) (fun _ => rfl) fun _ => KeepT.pure _
end
theorem KeepT.take (t : List UInt8) : KeepT (takeR L t) := fun st => (keep_take (v := (takeR L t st).1) rfl).2
theorem KeepT.name : KeepT (nameR L) := fun st => (keep_name (v := (nameR L st).1) rfl).2
theorem KeepT.num : KeepT (numberR L) := fun st => (keep_num (v := (numberR L st).1) rfl).2
theorem KeepT.room (n : Nat) : KeepT (roomR n) := fun st => (keep_room (v := (roomR n st).1) rfl).2
theorem KeepT.roomIf (n : Nat) (p : Nat → Bool) : KeepT (fun s => if p s.i = true then roomR n s else ((), s)) := fun st => by
 dsimp only
 split
 ·exact KeepT.room n st
 ·rfl
theorem KeepT.put (x : EX) : KeepT (putR x) := fun _ => rfl
theorem KeepT.step : KeepT stepR := fun _ => rfl
theorem keepT_un {un ex : RM Int} (h1 : KeepT un) (h2 : KeepT ex) : KeepT (unR L un ex) :=
 ((KeepT.take _).and fun _ => h1.deep.and fun _ => KeepT.put _).at (((KeepT.take _).and fun _ => h2.deep.and fun _ => (KeepT.take _).and fun _ => KeepT.pure _).at ((KeepT.name.and fun _ => KeepT.put _).at (KeepT.num.and fun _ => KeepT.put _))) |>.guard 0
theorem keepT_line (lv : Nat) {x : RM Int} (hx : KeepT x) : ∀ n left, KeepT (lineNR L lv x n left)
 | 0, left => KeepT.pure _
 | n + 1, left => (KeepT.look (f := fun s => atR (opAt L lv) (stepR >>= fun _ => x >>= fun right => putR ⟨3, (tk L s.i).t, 0, [], [left, right]⟩ >>= fun k => lineNR L lv x n k) (pure left)) fun s =>
   (KeepT.step.and fun _ => hx.and fun _ => (KeepT.put _).and fun _ => keepT_line lv hx n _).at (KeepT.pure _)).guard left
theorem keepT_lineJ {un : RM Int} (hx : KeepT un) : ∀ j, KeepT (lineJR L un j)
 | 0 => hx.guard 0
 | j + 1 => ((keepT_lineJ hx j).and fun left => KeepT.look (f := fun s => lineNR L (8 - j) (lineJR L un j) (L.length - s.i + 1) left) fun s => keepT_line _ (keepT_lineJ hx j) _ _).guard 0
theorem keepT_unRm : ∀ m, KeepT (unRm L m)
 | 0 => keepT_un (KeepT.pure _) (KeepT.pure _)
 | m + 1 => keepT_un (keepT_unRm m) (keepT_lineJ (keepT_unRm m) 8)
theorem keepT_expr (m : Nat) : KeepT (exprR L m) := keepT_lineJ (keepT_unRm m) 8
theorem keepT_bracket (m : Nat) : KeepT (bracketR L m) := (KeepT.take _).and fun _ => (keepT_expr m).and fun _ => (KeepT.take _).and fun _ => KeepT.pure _
theorem keepT_args (m : Nat) : ∀ n l, KeepT (argsR L m n l)
 | 0, l => KeepT.pure _
 | n + 1, l => (((KeepT.take _).and fun _ => (KeepT.roomIf _ _).and fun _ => (keepT_expr m).and fun _ => keepT_args m n _).at (KeepT.pure _)).guard l
theorem keepT_ref (m : Nat) : KeepT (refR L m) := KeepT.name.and fun w => ((KeepT.take _).and fun _ => (((keepT_expr m).and fun x => KeepT.look (f := fun s => argsR L m (L.length - s.i + 1) [x]) fun s => keepT_args m _ _).guard []).and fun l => (KeepT.take _).and fun _ => KeepT.pure _).at (KeepT.pure _)
theorem startR2 {st : RSt} {X : List EX} {T : List TY} : SLe 5 ⟨argTm 0 [P0], [(3, .dead), (4, .dead), (0, Rz L st 1 2 5 6), (5, Xr X), (6, Tr T)], 7⟩ ⟨argTm 0 [P0], [(0, Rz L st 1 2 3 4), (3, Xr X), (4, Tr T)], 5⟩ :=
 SLe.kill (nx := 7) 3 (SLe.kill (nx := 7) 4 (sR [(0, 0), (1, 1), (2, 2), (3, 5), (4, 6)]))
theorem startR2t {st : RSt} {X : List EX} {T : List TY} {t : TY} : SLe 5 ⟨argTm 0 [P0, gD (tyD t)], [(3, .dead), (4, .dead), (0, Rz L st 1 2 5 6), (5, Xr X), (6, Tr T)], 7⟩ ⟨argTm 0 [P0, gD (tyD t)], [(0, Rz L st 1 2 3 4), (3, Xr X), (4, Tr T)], 5⟩ :=
 SLe.kill (nx := 7) 3 (SLe.kill (nx := 7) 4 (sR [(0, 0), (1, 1), (2, 2), (3, 5), (4, 6)]))
theorem rbracket_c (hL : TokOk L) (hn : L.length ≤ 100000) (hm : m ≤ 32) (st : RSt) (hg : Gd L m 0 1000 st) : W1 L 91 [] (bracketR L m) (fun k => Ti k) st := fun v st' hT X hX => by
 subst hX
 have kx_st : st.xs = st.xs := rfl
 have kt_st : st.ts = st.ts := rfl
 unfold bracketR at hT
 refine fn_ruleP (C := ⟨Tryz.prog, layF, Tryz.f91.ntmps, ΓL, 5, [], []⟩) layF_ok mixed Tryz.func91 rfl (by kernel_rfl) rfl rfl rfl startR1 ?_
 repeat' (first | refine qgs ?_ | refine eD ?_ ?_ <;> intro)
 rcases h1 : (takeR L t_lsq) (st) with ⟨_, st1⟩
 replace hT := (rand h1).symm.trans hT
 refine sC (CallsM.ren ((rtake_c st hg.i hn t_lsq) _ _ h1) [0, 1, 2, 5, 4] 6 rfl rfl rfl rfl) ?_
 have kx_st1 := (keep_take h1).1.trans kx_st
 have kt_st1 := (keep_take h1).2.trans kt_st
 have hg1 := (Sim.take (m := m) hL t_lsq 0).gd hg (by omega) h1
 repeat' (first | refine qgs ?_ | refine eD ?_ ?_ <;> intro)
 rcases h2 : (exprR L m) (st1) with ⟨k, st2⟩
 replace hT := (rand h2).symm.trans hT
 refine sC (CallsM.ren ((rexpr_c hL hn hm st1 (hg1.le (by omega) (by omega))) _ _ h2 _ kx_st1) [0, 1, 2, 5, 4] 6 rfl rfl rfl rfl) ?_
 have kx_st2 : st2.xs = st2.xs := rfl
 have kt_st2 := ((keepT_expr m).eq h2).trans kt_st1
 have hg2 := (sim_expr hL m 1).gd hg1 (by omega) h2
 repeat' (first | refine qgs ?_ | refine eD ?_ ?_ <;> intro)
 rcases h3 : (takeR L t_rsq) (st2) with ⟨_, st3⟩
 replace hT := (rand h3).symm.trans hT
 refine sC (CallsM.ren ((rtake_c st2 hg2.i hn t_rsq) _ _ h3) [0, 1, 2, 6, 4] 7 rfl rfl rfl rfl) ?_
 have kx_st3 := (keep_take h3).1.trans kx_st2
 have kt_st3 := (keep_take h3).2.trans kt_st2
 obtain rfl : k = v := congrArg Prod.fst hT
 obtain rfl : st3 = st' := congrArg Prod.snd hT
 repeat' (first | refine qgs ?_ | refine eD ?_ ?_ <;> intro)
 rw [kx_st3]
 exact ⟨rfl, TLe.rfl, rfl, rfl⟩
section
variable {kd : PM Int} {kd' : RM Int} {c : Nat}
theorem rinner_c (hn : L.length ≤ 100000) (hm : m ≤ 32) (hs : ∀ m', m = m' + 1 → Sim L m' kd kd' 0 0 c 0) (hc : 1 ≤ c) (hc2 : c ≤ 900) (b1 : ∀ st, st.err ≠ 0 → kd' st = (0, st))
  (hk : ∀ m', m = m' + 1 → ∀ st, Gd L m' 0 1000 st → W2 L 69 [] kd' (fun k => Ti k) st) (he : ∀ st, st.err ≠ 0 → st.err ≤ 10 → W2 L 69 [] kd' (fun k => Ti k) st)
  (st : RSt) (hg : Gd L m 0 990 st) : W2 L 92 [] (innerR L kd') (fun k => Ti k) st := fun v st' hT X T hX hTt => by
 subst hX
 subst hTt
 have kx_st : st.xs = st.xs := rfl
 have kt_st : st.ts = st.ts := rfl
 have hty := rtyped_c st hg.i
 rcases hent : enterR (startsV L st.i) st with ⟨u, st1⟩
 rcases hun : kd' st1 with ⟨k, st2⟩
 have hde := deep_eq (p := (startsV L ·)) hent hun
 have hg3 := (sim_inner (m := m) hs (fun s h => by rw [b1 s h]; exact Stay.rfl) hc 0).gd hg (by omega) hde
 have hin : W2 L 69 [] kd' (fun k => Ti k) st1 := by
  rcases hg.enter hent with ⟨m', e, hg2⟩ | ⟨e1, e2, e3, e4, e5, e6⟩
  ·exact hk m' e st1 (hg2.le (by omega) (by omega))
  ·exact he st1 e1 e6
 replace hT : ((k, { st2 with dep := st2.dep - 1 }) : Int × RSt) = (v, st') := hde.symm.trans hT
 obtain rfl : k = v := congrArg Prod.fst hT
 obtain rfl : { st2 with dep := st2.dep - 1 } = st' := congrArg Prod.snd hT
 have hd1 := hg.d1
 have hd2 := hg.d2
 have hd4 : 32 - (m : Int) - ((991 : Nat) : Int) ≤ st2.dep - 1 := hg3.d1
 have hd5 : st2.dep - 1 ≤ 32 - (m : Int) := hg3.d2
 have ke := keep_enter hent
 refine fn_ruleP (C := ⟨Tryz.prog, layF, Tryz.f92.ntmps, ΓL, 5, [], []⟩) layF_ok mixed Tryz.func92 rfl (by kernel_rfl) rfl rfl rfl startR2 ?_
 repeat' (first | refine qgs ?_ | refine eD ?_ ?_ <;> intro)
 refine sC (CallsM.ren (hty) [0, 1, 2, 5, 6] 7 rfl rfl rfl rfl) ?_
 repeat' (first | refine qgs ?_ | refine eD ?_ ?_ <;> intro)
 refine sC (CallsM.ren ((renter_c (L := L) st (by omega) (by omega) _ _ _ hent)) [0, 1, 2, 5, 6] 7 rfl rfl rfl rfl) ?_
 repeat' (first | refine qgs ?_ | refine eD ?_ ?_ <;> intro)
 refine sC (CallsM.ren ((hin _ _ hun _ _ ke.1 ke.2)) [0, 1, 2, 5, 6] 7 rfl rfl rfl rfl) ?_
 repeat' (first | refine qgs ?_ | refine eD ?_ ?_ <;> intro)
 exact ⟨rfl, TLe.rfl, rfl, rfl⟩
end
theorem rlay2_c (st : RSt) (x : TY) (hx : st.ts.length ≤ 1000000) (X : List EX) (T : List TY) (hT : st.ts = T) : CallsM Tryz.prog ΓL 93 [(0, Rz L st 1 2 3 4), (3, Xr X), (4, Tr T)] 5 [P0, gD (tyD x)] (Ti st.ts.length) [(0, Rz L st 1 2 3 5), (4, .dead)] [Tr (st.ts ++ [x])] :=
 (rlay_c (L := L) st x hx T hT).more fun p hp => by
  simp only [List.mem_cons, List.not_mem_nil, or_false] at hp ⊢; rcases hp with hp | hp <;> simp [hp]
theorem rlayn_c (st : RSt) (k size : Nat) (little : Bool) (w : List UInt8) (x n : Int) (hx : st.ts.length ≤ 1000000) (X : List EX) (T : List TY) (hT : st.ts = T) : CallsM Tryz.prog ΓL 93 [(0, Rz L st 1 2 3 4), (3, Xr X), (4, Tr T)] 5 [P0, gD [di k, di size, db little, ds (bs w), dnil, di x, di n, dnil]] (Ti st.ts.length) [(0, Rz L st 1 2 3 5), (4, .dead)] [Tr (st.ts ++ [⟨k, size, little, w, [], x, n, []⟩])] :=
 (rlay2_c (L := L) st ⟨k, size, little, w, [], x, n, []⟩ hx X T hT).argsLe (.cons T1Le.rfl (.cons (T1Le.g (.cons DLe.rfl (.cons DLe.rfl (.cons DLe.rfl (.cons DLe.rfl (.cons DLe.nil (.cons DLe.rfl (.cons DLe.rfl (.cons DLe.nil .nil))))))))) .nil))
set_option maxHeartbeats 4000000 in
theorem rarray_c (hL : TokOk L) (hn : L.length ≤ 100000) (hm : m ≤ 32) (t : TY) (st : RSt) (hg : Gd L m 1 900 st) : W2 L 89 [gD (tyD t)] (arrayR L m t) (fun k => Ti k) st := fun v st' hT X T hX hTt => by
 subst hX
 subst hTt
 have ht := hg.t
 unfold arrayR at hT
 replace hT : atR (isV L · t_lsq) (guardR (st.ts.length : Int) (bracketR L m >>= fun x => layR { tyP 5 with ex := x, inn := st.ts.length })) (pure (st.ts.length : Int)) { st with ts := st.ts ++ [t] } = (v, st') := hT
 have hi := ris_c { st with ts := st.ts ++ [t] } hg.i t_lsq
 have hl := rlay2_c (L := L) st t (by omega) st.xs st.ts rfl
 have h10 := hg.e
 refine fn_ruleP (C := ⟨Tryz.prog, layF, Tryz.f89.ntmps, ΓL, 5, [], []⟩) layF_ok mixed Tryz.func89 rfl (by kernel_rfl) rfl rfl rfl startR2t ?_
 repeat' (first | refine qgs ?_ | refine eD ?_ ?_ <;> intro)
 refine sC (CallsM.ren (hl) [0, 1, 2, 5, 6] 8 rfl rfl rfl rfl) ?_
 repeat' (first | refine qgs ?_ | refine eD ?_ ?_ <;> intro)
 rcases hv : isV L st.i t_lsq with _ | _
 ·replace hT := atRn hT hv
  obtain rfl : (st.ts.length : Int) = v := congrArg Prod.fst hT
  obtain rfl : { st with ts := st.ts ++ [t] } = st' := congrArg Prod.snd hT
  have hi : CallsM Tryz.prog ΓL 23 [(0, Rz L st 1 2 3 4)] 5 [P0, c1 (ds (bs t_lsq))] (Tb false) [(0, Rz L st 1 2 3 4)] [] := by rw [← hv]; exact hi
  refine sC (CallsM.ren (hi) [0, 1, 2, 5, 8] 9 rfl rfl rfl rfl) ?_
  repeat' (first | refine qgs ?_ | refine eD ?_ ?_ <;> intro)
  exact ⟨rfl, TLe.rfl, rfl, rfl⟩
 ·replace hT := atRy hT hv
  have hi : CallsM Tryz.prog ΓL 23 [(0, Rz L st 1 2 3 4)] 5 [P0, c1 (ds (bs t_lsq))] (Tb true) [(0, Rz L st 1 2 3 4)] [] := by rw [← hv]; exact hi
  by_cases he : st.err = 0
  ·replace hT := gdRy hT he
   have hg1 := (Sim.lay (m := m) t 0).gd (hg.fresh he 400) (by omega) (show layR t st = (_, { st with ts := st.ts ++ [t] }) from rfl)
   refine sC (CallsM.ren (hi) [0, 1, 2, 5, 8] 9 rfl rfl rfl rfl) ?_
   repeat' (first | refine qgs ?_ | refine eD ?_ ?_ <;> intro)
   rcases h2 : (bracketR L m) ({ st with ts := st.ts ++ [t] }) with ⟨x, st2⟩
   replace hT := (rand h2).symm.trans hT
   refine sC (CallsM.ren ((rbracket_c hL hn hm { st with ts := st.ts ++ [t] } (hg1.le (by omega) (by omega))) _ _ h2 _ rfl) [0, 1, 2, 5, 8] 9 rfl rfl rfl rfl) ?_
   have kx_st2 : st2.xs = st2.xs := rfl
   have kt_st2 := ((keepT_bracket m).eq h2).trans rfl
   have hg2 := (sim_bracket hL m 0).gd hg1 (by omega) h2
   have ht2 := hg2.t
   obtain rfl : (st2.ts.length : Int) = v := congrArg Prod.fst hT
   obtain rfl : { st2 with ts := st2.ts ++ [{ tyP 5 with ex := x, inn := st.ts.length }] } = st' := congrArg Prod.snd hT
   repeat' (first | refine qgs ?_ | refine eD ?_ ?_ <;> intro)
   refine sC (CallsM.ren ((rlayn_c (L := L) st2 5 0 false [] x st.ts.length (by omega) st2.xs _ kt_st2)) [0, 1, 2, 9, 8] 10 rfl rfl rfl rfl) ?_
   repeat' (first | refine qgs ?_ | refine eD ?_ ?_ <;> intro)
   exact ⟨rfl, TLe.rfl, rfl, rfl⟩
  ·replace hT := gdRn hT he
   obtain rfl : (st.ts.length : Int) = v := congrArg Prod.fst hT
   obtain rfl : { st with ts := st.ts ++ [t] } = st' := congrArg Prod.snd hT
   refine sC (CallsM.ren (hi) [0, 1, 2, 5, 8] 9 rfl rfl rfl rfl) ?_
   repeat' (first | refine qgs ?_ | refine eD ?_ ?_ <;> intro)
   exact ⟨rfl, TLe.rfl, rfl, rfl⟩
end
end Go.Proofs.YtoingpafcodojaaGreatDoor

namespace Go.Proofs.YtoingpafcodojaaGreatDoor
open Go.RowKit

section
variable {L : List TokP} {m : Nat}
theorem SLe.thru {nx0 : Nat} {s t u : St} (h' : SLe nx0 t u) (h : SLe nx0 s t) : SLe nx0 s u := h.trans h'
theorem argsR_err {s : RSt} (h : s.err ≠ 0) (n : Nat) (l : List Int) : argsR L m n l s = (l, s) := by
 cases n with
 | zero => rfl
 | succ n => exact if_neg h
theorem take_yes {s : RSt} {t : List UInt8} (he : s.err = 0) (hv : isV L s.i t = true) : takeR L t s = ((), { s with i := s.i + 1 }) := by
 unfold takeR guardR
 rw [if_pos he]
 dsimp only
 rw [if_pos hv]
theorem take_err {s : RSt} {t : List UInt8} (he : s.err ≠ 0) : takeR L t s = ((), s) := by
 unfold takeR guardR
 rw [if_neg he]
theorem roomIf_no {s : RSt} {p : Nat → Bool} {n : Nat} (h : p s.i = false) : (fun s : RSt => if p s.i = true then roomR n s else ((), s)) s = ((), s) := by
 dsimp only
 rw [if_neg (by rw [h]; decide)]
theorem roomIf_yes {s s1 : RSt} {p : Nat → Bool} {n : Nat} {u : Unit} (h : p s.i = true) (hr : roomR n s = (u, s1)) : (fun s : RSt => if p s.i = true then roomR n s else ((), s)) s = (u, s1) := by
 dsimp only
 rw [if_pos h, hr]
theorem roomIf_nil {s : RSt} {p : Nat → Bool} : (fun s : RSt => if p s.i = true then roomR 0 s else ((), s)) s = ((), s) := by
 dsimp only
 split
 ·exact if_neg (by decide)
 ·rfl
theorem room_i {n : Nat} {s s1 : RSt} {u : Unit} (h : roomR n s = (u, s1)) : s1.i = s.i := by
 have h2 := congrArg Prod.snd h
 dsimp only at h2
 rw [← h2]
 unfold roomR failR
 split
 ·dsimp only; split <;> rfl
 ·rfl
theorem args_out {K : List Int → RM TY} {s2 : RSt} {n : Nat} {l : List Int} {T : TY × RSt} (hcv : isV L s2.i t_comma = false) (hF : s2.err = 0 → L.length < s2.i + n) (hi : s2.i < L.length) (hT : (argsR L m n l >>= K) s2 = T) : K l s2 = T := by
 by_cases he : s2.err = 0
 ·have := hF he
  cases n with
  | zero => omega
  | succ n =>
   rw [argsR] at hT
   have h1 := gdRyB hT he
   have h2 := atRnB h1 hcv
   exact h2
 ·exact (rand (argsR_err he n l)).symm.trans hT
theorem args_in {K : List Int → RM TY} {s2 s3 : RSt} {n : Nat} {l : List Int} {T : TY × RSt} {u : Unit} (hcv : isV L s2.i t_comma = true) (hi : s2.i < L.length) (hF : s2.err = 0 → L.length < s2.i + n) (hT : (argsR L m n l >>= K) s2 = T) (ht : takeR L t_comma s2 = (u, s3)) :
  (true = true ∧ s3.err = 0 ∧ (∀ s' : RSt, s3.i ≤ s'.i → s'.err = 0 → L.length < s'.i + (n - 1)) ∧ ((fun s => if beginsV L s.i = true then roomR l.length s else ((), s)) >>= fun _ => exprR L m >>= fun x => (fun s => argsR L m (n - 1) (l ++ [x]) s : RM (List Int)) >>= K) s3 = T) ∨ (¬ (true = true ∧ s3.err = 0) ∧ K l s3 = T) := by
 by_cases he : s2.err = 0
 ·have := hF he
  cases n with
  | zero => omega
  | succ n =>
   rw [argsR] at hT
   have h1 := gdRyB hT he
   have h2 := atRyB h1 hcv
   rw [take_yes he hcv] at ht
   obtain rfl := congrArg Prod.snd ht
   refine .inl ⟨rfl, he, fun s' h1 h2 => by have h1 : s2.i + 1 ≤ s'.i := h1; show _ < _ + n; omega, ?_⟩
   have h3 : RM.and _ _ s2 = T := h2
   unfold RM.and at h3
   rw [rand (take_yes he hcv)] at h3
   exact h3
 ·rw [take_err he] at ht
  obtain rfl : s2 = s3 := congrArg Prod.snd ht
  exact .inr ⟨fun h => he h.2, (rand (argsR_err he n l)).symm.trans hT⟩
set_option maxHeartbeats 4000000 in
theorem rref_c (hL : TokOk L) (hn : L.length ≤ 100000) (hm : m ≤ 32) (st : RSt) (hg : Gd L m 0 900 st) : W1 L 88 [] (refR L m) (fun t => .o (gD (tyD t))) st := fun v st' hT X hX => by
 subst hX
 have kx_st : st.xs = st.xs := rfl
 have kt_st : st.ts = st.ts := rfl
 unfold refR at hT
 refine fn_ruleP (C := ⟨Tryz.prog, layF, Tryz.f88.ntmps, ΓL, 5, [], []⟩) layF_ok mixed Tryz.func88 rfl (by kernel_rfl) rfl rfl rfl startR1 ?_
 repeat' (first | refine qgs ?_ | refine eD ?_ ?_ <;> intro)
 rcases h1 : (nameR L) (st) with ⟨w, st1⟩
 replace hT := (rand h1).symm.trans hT
 refine sC (CallsM.ren ((rname_c st hg.i hn) _ _ h1) [0, 1, 2, 5, 4] 7 rfl rfl rfl rfl) ?_
 have kx_st1 := (keep_name h1).1.trans kx_st
 have kt_st1 := (keep_name h1).2.trans kt_st
 have hg1 := (Sim.name (m := m) hL 0).gd hg (by omega) h1
 have hi1 := ris_c st1 hg1.i t_lpar
 repeat' (first | refine qgs ?_ | refine eD ?_ ?_ <;> intro)
 rcases hv : isV L st1.i t_lpar with _ | _ <;> rw [hv] at hi1
 ·replace hT := atRn hT hv
  obtain rfl : ({ tyP 10 with nm := w } : TY) = v := congrArg Prod.fst hT
  obtain rfl : st1 = st' := congrArg Prod.snd hT
  refine sC (CallsM.ren (hi1) [0, 1, 2, 5, 4] 8 rfl rfl rfl rfl) ?_
  repeat' (first | refine qgs ?_ | refine eD ?_ ?_ <;> intro)
  rw [kx_st1]
  exact ⟨rfl, tyLe, rfl, rfl⟩
 ·replace hT := atRy hT hv
  refine sC (CallsM.ren (hi1) [0, 1, 2, 5, 4] 8 rfl rfl rfl rfl) ?_
  repeat' (first | refine qgs ?_ | refine eD ?_ ?_ <;> intro)
  rcases h2 : (takeR L t_lpar) (st1) with ⟨_, st2⟩
  replace hT := (rand h2).symm.trans hT
  refine sC (CallsM.ren ((rtake_c st1 hg1.i hn t_lpar) _ _ h2) [0, 1, 2, 5, 4] 8 rfl rfl rfl rfl) ?_
  have kx_st2 := (keep_take h2).1.trans kx_st1
  have kt_st2 := (keep_take h2).2.trans kt_st1
  have hg2 := (Sim.take (m := m) hL t_lpar 1).gd hg1 (by omega) h2
  repeat' (first | refine qgs ?_ | refine eD ?_ ?_ <;> intro)
  refine ex_loop (X := RSt × List EX × Bool × List Int × (RSt → Nat)) (fun ⟨s, xl, more, l, _⟩ => ⟨[(0, .o P0), (2, .o (.c (.ptr 6 0))), (4, .o (.c (.ptr 7 0))), (5, Tb more)], [(0, Rz L s 1 2 9 4), (3, .dead), (6, .obj [.d (di 0), .d (di 0), .d (db false), .d (ds ⟨#[]⟩), .d dnil, .d (di 0), .d (di 0), .d dnil]), (7, .obj [.d (di 10), .d (di 0), .d (db false), .d (ds (bs w)), .row 8, .d (di (-1)), .d (di (-1)), .d dnil]), (8, .row 1 3 (l.map fun k => [di k])), (9, Xr xl)], 10⟩)
   (fun y => if y.2.2.1 = true ∧ y.1.err = 0 then L.length - y.1.i + 1 else 0)
   (fun ⟨s, xl, more, l, F⟩ => Gd L m 2 920 s ∧ s.xs = xl ∧ (more = true → s.err = 0 → l.length ≤ s.i) ∧ l.length ≤ L.length + 1 ∧
    ((more = true ∧ s.err = 0 ∧ (∀ s' : RSt, s.i ≤ s'.i → s'.err = 0 → L.length < s'.i + F s') ∧ ((fun s => if beginsV L s.i = true then roomR l.length s else ((), s)) >>= fun _ => exprR L m >>= fun x => (fun s => argsR L m (F s) (l ++ [x]) s : RM (List Int)) >>= fun l => takeR L t_rpar >>= fun _ => pure ({ tyP 10 with nm := w, args := l } : TY)) s = (v, st')) ∨
     (¬ (more = true ∧ s.err = 0) ∧ (takeR L t_rpar >>= fun _ => pure ({ tyP 10 with nm := w, args := l } : TY)) s = (v, st')))) (st2, st.xs, true, [], fun s => L.length - s.i + 1) ⟨hg2.le (by omega) (by omega), kx_st2, fun _ _ => Nat.zero_le _, Nat.zero_le _, ?_⟩ ?_ ?_
  ·by_cases he : st2.err = 0
   ·have h9 := gdRyB hT he
    exact .inl ⟨rfl, he, fun s' h1 h2 => by show L.length < s'.i + (L.length - s'.i + 1); omega, (rand roomIf_nil).trans h9⟩
   ·have h9 := gdRnB hT he
    exact .inr ⟨fun h => he h.2, h9⟩
  ·exact SLe.thru (SLe.ownCell 7 4 8 1 3 rfl rfl rfl rfl rfl rfl) (sR [(0, 0), (1, 1), (2, 2), (3, 3), (4, 4), (6, 6), (7, 7), (8, 8), (5, 9)])
  clear hT kx_st1 kt_st1 kx_st2 kt_st2 kx_st kt_st hg2 h2 h1 hg hg1 hi1 hv
  rintro ⟨s, xl, more, l, F⟩ ⟨hs, kx_s, hl1, hl2, hC⟩
  have kt_s : s.ts = s.ts := rfl
  have hsi := hs.i
  have h10 := hs.e
  rcases hC with ⟨rfl, hse, hF, hT⟩ | ⟨hno, hT⟩
  ·have hl1 := hl1 rfl hse
   have hop := roperand_c s hsi
   rcases hb : beginsV L s.i with _ | _ <;> rw [hb] at hop
   ·replace hT := (rand (roomIf_no hb)).symm.trans hT
    have hF2 : ∀ s2 : RSt, s.i ≤ s2.i → s2.err = 0 → L.length < s2.i + F s2 := hF
    repeat' (first | refine qgs ?_ | refine eD ?_ ?_ <;> intro)
    refine sC (CallsM.ren (hop) [0, 1, 2, 9, 4] 10 rfl rfl rfl rfl) ?_
    repeat' (first | refine qgs ?_ | refine eD ?_ ?_ <;> intro)
    rcases hx : (exprR L m) (s) with ⟨x, s2⟩
    replace hT := (rand hx).symm.trans hT
    refine sC (CallsM.ren ((rexpr_c hL hn hm s (hs.le (by omega) (by omega))) _ _ hx _ kx_s) [0, 1, 2, 9, 4] 10 rfl rfl rfl rfl) ?_
    have kx_s2 : s2.xs = s2.xs := rfl
    have kt_s2 := ((keepT_expr m).eq hx).trans kt_s
    have hg2 := (sim_expr hL m 2).gd hs (by omega) hx
    have hgr := fun h => ((sim_expr hL m 2).grow hs hx h).2
    have hsi2 := hg2.i
    replace hT : (argsR L m (F s2) (l ++ [x]) >>= fun l => takeR L t_rpar >>= fun _ => pure ({ tyP 10 with nm := w, args := l } : TY)) s2 = (v, st') := hT
    have hlx : (l ++ [x]).length = l.length + 1 := by simp
    have hle : s2.err = 0 → l.length ≤ s2.i := fun h => by
     have := hgr h
     skip
     omega
    repeat' (first | refine qgs ?_ | refine eD ?_ ?_ <;> intro)
    refine ex_app (l.length) (1) 1000 (by first | rfl | (simp; done) | (simp; omega)) (by first | rfl | (simp; done) | (simp; omega)) rfl (by omega) ?_
    refine ex_is (List.map (fun k : Int => [di k]) (l ++ [x])) (by rw [List.map_append]; rfl) ?_
    repeat' (first | refine qgs ?_ | refine eD ?_ ?_ <;> intro)
    have hi2 := ris_c s2 hsi2 t_comma
    rcases hcv : isV L s2.i t_comma with _ | _ <;> rw [hcv] at hi2
    ·
     refine sC (CallsM.ren (hi2) [0, 1, 2, 10, 4] 13 rfl rfl rfl rfl) ?_
     repeat' (first | refine qgs ?_ | refine eD ?_ ?_ <;> intro)
     exact ex_round (s2, s2.xs, false, l ++ [x], F) ⟨hg2.le (by omega) (by omega), rfl, fun h => (by cases h), by rw [hlx]; omega, .inr ⟨fun h => (by cases h.1), args_out hcv (fun h => hF2 s2 (hgr h) h) hsi2 hT⟩⟩ (by show (if false = true ∧ s2.err = 0 then L.length - s2.i + 1 else 0) < (if true = true ∧ s.err = 0 then L.length - s.i + 1 else 0); rw [if_neg (by simp), if_pos ⟨rfl, hse⟩]; omega) (sR [(0, 0), (1, 1), (2, 2), (3, 3), (4, 4), (6, 6), (7, 7), (10, 9), (12, 8)])
    ·
     refine sC (CallsM.ren (hi2) [0, 1, 2, 10, 4] 13 rfl rfl rfl rfl) ?_
     repeat' (first | refine qgs ?_ | refine eD ?_ ?_ <;> intro)
     rcases htk : takeR L t_comma s2 with ⟨u3, s3⟩
     have ht3 := rtake_c s2 hsi2 hn t_comma
     refine sC (CallsM.ren ((ht3 _ _ htk)) [0, 1, 2, 10, 4] 13 rfl rfl rfl rfl) ?_
     repeat' (first | refine qgs ?_ | refine eD ?_ ?_ <;> intro)
     have kk := keep_take htk
     have hg3 := (Sim.take (m := m) hL t_comma 2).gd hg2 (by omega) htk
     refine ex_round (s3, s2.xs, true, l ++ [x], fun _ => F s2 - 1) ⟨hg3.le (by omega) (by omega), kk.1, ?_, by rw [hlx]; omega, ?_⟩ ?_ (SLe.ren [(0, 0), (1, 1), (2, 2), (3, 3), (4, 4), (6, 6), (7, 7), (10, 9), (12, 8)] ⟨⟨rfl, rfl⟩, ⟨rfl, rfl⟩, ⟨rfl, rfl⟩, ⟨rfl, rfl⟩, trivial⟩ ⟨⟨rfl, rfl⟩, ⟨rfl, rfl⟩, ⟨rfl, rfl⟩, ⟨rfl, rfl⟩, ⟨rfl, rfl⟩, ⟨rfl, rfl⟩, trivial⟩ rfl)
     ·intro _ h
      rw [hlx]
      by_cases he2 : s2.err = 0
      ·have := hle he2
       rw [take_yes he2 hcv] at htk
       obtain rfl := congrArg Prod.snd htk
       show _ ≤ s2.i + 1
       omega
      ·rw [take_err he2] at htk
       obtain rfl : s2 = s3 := congrArg Prod.snd htk
       exact absurd h he2
     ·exact args_in hcv hsi2 (fun h => hF2 s2 (hgr h) h) hT htk
     ·by_cases he2 : s2.err = 0
      ·have := hgr he2
       rw [take_yes he2 hcv] at htk
       obtain rfl := congrArg Prod.snd htk
       show (if true = true ∧ s2.err = 0 then L.length - (s2.i + 1) + 1 else 0) < (if true = true ∧ s.err = 0 then L.length - s.i + 1 else 0)
       rw [if_pos ⟨rfl, he2⟩, if_pos ⟨rfl, hse⟩]
       omega
      ·rw [take_err he2] at htk
       obtain rfl : s2 = s3 := congrArg Prod.snd htk
       show (if true = true ∧ s2.err = 0 then L.length - s2.i + 1 else 0) < (if true = true ∧ s.err = 0 then L.length - s.i + 1 else 0)
       rw [if_neg (fun h => he2 h.2), if_pos ⟨rfl, hse⟩]
       omega
   ·have hs0 := hs
    rcases hr : roomR l.length s with ⟨u1, s1⟩
    replace hT := (rand (roomIf_yes hb hr)).symm.trans hT
    have kr := keep_room hr
    have hg1 := (Sim.room (L := L) (m := m) l.length 2).gd hs (by omega) hr
    have kx_s1 := kr.1.trans kx_s
    have kt_s1 := kr.2.trans kt_s
    have hri : s1.i = s.i := room_i hr
    repeat' (first | refine qgs ?_ | refine eD ?_ ?_ <;> intro)
    refine sC (CallsM.ren (hop) [0, 1, 2, 9, 4] 10 rfl rfl rfl rfl) ?_
    repeat' (first | refine ex_is l.length (by simp) ?_ | refine qg1 ?_ | refine eD ?_ ?_ <;> intro)
    refine sC (CallsM.ren (((rroom_c s l.length (by omega)) _ _ hr)) [0, 1, 2, 9, 4] 10 rfl rfl rfl rfl) ?_
    repeat' (first | refine qgs ?_ | refine eD ?_ ?_ <;> intro)
    rcases hx : (exprR L m) (s1) with ⟨x, s2⟩
    replace hT := (rand hx).symm.trans hT
    refine sC (CallsM.ren ((rexpr_c hL hn hm s1 (hg1.le (by omega) (by omega))) _ _ hx _ kx_s1) [0, 1, 2, 9, 4] 10 rfl rfl rfl rfl) ?_
    have kx_s2 : s2.xs = s2.xs := rfl
    have kt_s2 := ((keepT_expr m).eq hx).trans kt_s1
    have hg2 := (sim_expr hL m 2).gd hg1 (by omega) hx
    have hgr := fun h => ((sim_expr hL m 2).grow hg1 hx h).2
    have hsi2 := hg2.i
    replace hT : (argsR L m (F s2) (l ++ [x]) >>= fun l => takeR L t_rpar >>= fun _ => pure ({ tyP 10 with nm := w, args := l } : TY)) s2 = (v, st') := hT
    have hlx : (l ++ [x]).length = l.length + 1 := by simp
    have hle : s2.err = 0 → l.length ≤ s2.i := fun h => by
     have := hgr h
     have := hri
     omega
    repeat' (first | refine qgs ?_ | refine eD ?_ ?_ <;> intro)
    refine ex_app (l.length) (1) 1000 (by first | rfl | (simp; done) | (simp; omega)) (by first | rfl | (simp; done) | (simp; omega)) rfl (by omega) ?_
    refine ex_is (List.map (fun k : Int => [di k]) (l ++ [x])) (by rw [List.map_append]; rfl) ?_
    repeat' (first | refine qgs ?_ | refine eD ?_ ?_ <;> intro)
    have hi2 := ris_c s2 hsi2 t_comma
    rcases hcv : isV L s2.i t_comma with _ | _ <;> rw [hcv] at hi2
    ·
     refine sC (CallsM.ren (hi2) [0, 1, 2, 10, 4] 13 rfl rfl rfl rfl) ?_
     repeat' (first | refine qgs ?_ | refine eD ?_ ?_ <;> intro)
     exact ex_round (s2, s2.xs, false, l ++ [x], F) ⟨hg2.le (by omega) (by omega), rfl, fun h => (by cases h), by rw [hlx]; omega, .inr ⟨fun h => (by cases h.1), args_out hcv (fun h => hF s2 (by have := hgr h; omega) h) hsi2 hT⟩⟩ (by show (if false = true ∧ s2.err = 0 then L.length - s2.i + 1 else 0) < (if true = true ∧ s.err = 0 then L.length - s.i + 1 else 0); rw [if_neg (by simp), if_pos ⟨rfl, hse⟩]; omega) (sR [(0, 0), (1, 1), (2, 2), (3, 3), (4, 4), (6, 6), (7, 7), (10, 9), (12, 8)])
    ·
     refine sC (CallsM.ren (hi2) [0, 1, 2, 10, 4] 13 rfl rfl rfl rfl) ?_
     repeat' (first | refine qgs ?_ | refine eD ?_ ?_ <;> intro)
     rcases htk : takeR L t_comma s2 with ⟨u3, s3⟩
     have ht3 := rtake_c s2 hsi2 hn t_comma
     refine sC (CallsM.ren ((ht3 _ _ htk)) [0, 1, 2, 10, 4] 13 rfl rfl rfl rfl) ?_
     repeat' (first | refine qgs ?_ | refine eD ?_ ?_ <;> intro)
     have kk := keep_take htk
     have hg3 := (Sim.take (m := m) hL t_comma 2).gd hg2 (by omega) htk
     refine ex_round (s3, s2.xs, true, l ++ [x], fun _ => F s2 - 1) ⟨hg3.le (by omega) (by omega), kk.1, ?_, by rw [hlx]; omega, ?_⟩ ?_ (SLe.ren [(0, 0), (1, 1), (2, 2), (3, 3), (4, 4), (6, 6), (7, 7), (10, 9), (12, 8)] ⟨⟨rfl, rfl⟩, ⟨rfl, rfl⟩, ⟨rfl, rfl⟩, ⟨rfl, rfl⟩, trivial⟩ ⟨⟨rfl, rfl⟩, ⟨rfl, rfl⟩, ⟨rfl, rfl⟩, ⟨rfl, rfl⟩, ⟨rfl, rfl⟩, ⟨rfl, rfl⟩, trivial⟩ rfl)
     ·intro _ h
      rw [hlx]
      by_cases he2 : s2.err = 0
      ·have := hle he2
       rw [take_yes he2 hcv] at htk
       obtain rfl := congrArg Prod.snd htk
       show _ ≤ s2.i + 1
       omega
      ·rw [take_err he2] at htk
       obtain rfl : s2 = s3 := congrArg Prod.snd htk
       exact absurd h he2
     ·exact args_in hcv hsi2 (fun h => hF s2 (by have := hgr h; omega) h) hT htk
     ·by_cases he2 : s2.err = 0
      ·have := hgr he2
       rw [take_yes he2 hcv] at htk
       obtain rfl := congrArg Prod.snd htk
       show (if true = true ∧ s2.err = 0 then L.length - (s2.i + 1) + 1 else 0) < (if true = true ∧ s.err = 0 then L.length - s.i + 1 else 0)
       rw [if_pos ⟨rfl, he2⟩, if_pos ⟨rfl, hse⟩]
       omega
      ·rw [take_err he2] at htk
       obtain rfl : s2 = s3 := congrArg Prod.snd htk
       show (if true = true ∧ s2.err = 0 then L.length - s2.i + 1 else 0) < (if true = true ∧ s.err = 0 then L.length - s.i + 1 else 0)
       rw [if_neg (fun h => he2 h.2), if_pos ⟨rfl, hse⟩]
       omega
  ·have hend : ∀ (s : RSt) (xl : List EX) (hs : Gd L m 2 920 s) (kx : s.xs = xl), True := fun _ _ _ _ => trivial
   rcases h4 : takeR L t_rpar s with ⟨u4, s4⟩
   replace hT := (rand h4).symm.trans hT
   obtain rfl : ({ tyP 10 with nm := w, args := l } : TY) = v := congrArg Prod.fst hT
   obtain rfl : s4 = st' := congrArg Prod.snd hT
   have kk := (keep_take h4).1.trans kx_s
   have hcon := (rtake_c s hsi hn t_rpar) _ _ h4
   cases more
   ·repeat' (first | refine qgs ?_ | refine eD ?_ ?_ <;> intro)
    refine sC (CallsM.ren (hcon) [0, 1, 2, 9, 4] 10 rfl rfl rfl rfl) ?_
    repeat' (first | refine qgs ?_ | refine eD ?_ ?_ <;> intro)
    rw [kk]
    exact ⟨rfl, tyLe1, rfl, rfl⟩
   ·have hse : s.err ≠ 0 := fun h => hno ⟨rfl, h⟩
    repeat' (first | refine qgs ?_ | refine eD ?_ ?_ <;> intro)
    refine sC (CallsM.ren (hcon) [0, 1, 2, 9, 4] 10 rfl rfl rfl rfl) ?_
    repeat' (first | refine qgs ?_ | refine eD ?_ ?_ <;> intro)
    rw [kk]
    exact ⟨rfl, tyLe1, rfl, rfl⟩
end
end Go.Proofs.YtoingpafcodojaaGreatDoor

namespace Go.Proofs.YtoingpafcodojaaGreatDoor
open Go.RowKit

section
variable {L : List TokP} {m : Nat}
theorem casesR_err {kd : RM Int} {s : RSt} (h : s.err ≠ 0) (n : Nat) (l : List CA) : casesR L kd n l s = (l, s) := by
 cases n with
 | zero => rfl
 | succ n => exact if_neg h
theorem rlayc_c (st : RSt) (x n : Int) (cs : List CA) (hx : st.ts.length ≤ 1000000) (X : List EX) (T : List TY) (hT : st.ts = T) : CallsM Tryz.prog ΓL 93 [(0, Rz L st 1 2 3 4), (3, Xr X), (4, Tr T)] 5 [P0, gD [di 9, di 0, db false, ds ⟨#[]⟩, dnil, di x, di n, .sl 2 (cs.map caD)]] (Ti st.ts.length) [(0, Rz L st 1 2 3 5), (4, .dead)] [Tr (st.ts ++ [⟨9, 0, false, [], [], x, n, cs⟩])] :=
 (rlay2_c (L := L) st ⟨9, 0, false, [], [], x, n, cs⟩ hx X T hT).argsLe (.cons T1Le.rfl (.cons (T1Le.g (.cons DLe.rfl (.cons DLe.rfl (.cons DLe.rfl (.cons DLe.rfl (.cons DLe.nil (.cons DLe.rfl (.cons DLe.rfl (.cons DLe.rfl .nil))))))))) .nil))
set_option maxHeartbeats 8000000 in
theorem rchoice_c (hL : TokOk L) (hn : L.length ≤ 100000) (hm : m ≤ 32) {kd : PM Int} {kd' : RM Int} {c : Nat} (hsm : ∀ m', m = m' + 1 → Sim L m' kd kd' 0 0 c 0) (hc : 1 ≤ c) (hc2 : c ≤ 400) (b1 : ∀ st, st.err ≠ 0 → kd' st = (0, st))
  (hkd : ∀ m', m = m' + 1 → ∀ st, Gd L m' 0 1000 st → W2 L 69 [] kd' (fun k => Ti k) st) (hke : ∀ st, st.err ≠ 0 → st.err ≤ 10 → W2 L 69 [] kd' (fun k => Ti k) st)
  (st : RSt) (hg : Gd L m 0 900 st) : W2 L 94 [] (choiceR L m kd') (fun k => Ti k) st := fun v st' hT X T hX hTt => by
 subst hX
 subst hTt
 have kx_st : st.xs = st.xs := rfl
 have kt_st : st.ts = st.ts := rfl
 have hin : ∀ st, Gd L m 0 990 st → W2 L 92 [] (innerR L kd') (fun k => Ti k) st := fun st hg => rinner_c hn hm hsm hc (by omega) b1 hkd hke st hg
 have hsi := fun a => sim_inner (m := m) hsm (fun s h => by rw [b1 s h]; exact Stay.rfl) hc a
 unfold choiceR at hT
 refine fn_ruleP (C := ⟨Tryz.prog, layF, Tryz.f94.ntmps, ΓL, 5, [], [16]⟩) layF_ok mixed Tryz.func94 rfl (by kernel_rfl) rfl rfl rfl startR2 ?_
 repeat' (first | refine qgs ?_ | refine eD ?_ ?_ <;> intro)
 rcases h1 : (takeR L t_lpar) (st) with ⟨_, st1⟩
 replace hT := (rand h1).symm.trans hT
 refine sC (CallsM.ren ((rtake_c st hg.i hn t_lpar) _ _ h1) [0, 1, 2, 5, 6] 8 rfl rfl rfl rfl) ?_
 have kx_st1 := (keep_take h1).1.trans kx_st
 have kt_st1 := (keep_take h1).2.trans kt_st
 have hg1 := (Sim.take (m := m) hL t_lpar 0).gd hg (by omega) h1
 repeat' (first | refine qgs ?_ | refine eD ?_ ?_ <;> intro)
 rcases h2 : (exprR L m) (st1) with ⟨x, st2⟩
 replace hT := (rand h2).symm.trans hT
 refine sC (CallsM.ren ((rexpr_c hL hn hm st1 (hg1.le (by omega) (by omega))) _ _ h2 _ kx_st1) [0, 1, 2, 5, 6] 8 rfl rfl rfl rfl) ?_
 have kx_st2 : st2.xs = st2.xs := rfl
 have kt_st2 := ((keepT_expr m).eq h2).trans kt_st1
 have hg2 := (sim_expr hL m 1).gd hg1 (by omega) h2
 repeat' (first | refine qgs ?_ | refine eD ?_ ?_ <;> intro)
 rcases h3 : (takeR L t_rpar) (st2) with ⟨_, st3⟩
 replace hT := (rand h3).symm.trans hT
 refine sC (CallsM.ren ((rtake_c st2 hg2.i hn t_rpar) _ _ h3) [0, 1, 2, 8, 6] 9 rfl rfl rfl rfl) ?_
 have kx_st3 := (keep_take h3).1.trans kx_st2
 have kt_st3 := (keep_take h3).2.trans kt_st2
 have hg3 := (Sim.take (m := m) hL t_rpar 1).gd hg2 (by omega) h3
 repeat' (first | refine qgs ?_ | refine eD ?_ ?_ <;> intro)
 rcases h4 : (takeR L t_lcur) (st3) with ⟨_, st4⟩
 replace hT := (rand h4).symm.trans hT
 refine sC (CallsM.ren ((rtake_c st3 hg3.i hn t_lcur) _ _ h4) [0, 1, 2, 8, 6] 9 rfl rfl rfl rfl) ?_
 have kx_st4 := (keep_take h4).1.trans kx_st3
 have kt_st4 := (keep_take h4).2.trans kt_st3
 have hg4 := (Sim.take (m := m) hL t_lcur 2).gd hg3 (by omega) h4
 repeat' (first | refine qgs ?_ | refine eD ?_ ?_ <;> intro)
 obtain ⟨K, hK⟩ : ∃ K : List CA → RM Int, (fun cs : List CA => atR (isV L · w_else) (guardR (-1) (takeR L w_else >>= fun _ => takeR L t_colon >>= fun _ => innerR L kd' >>= fun k => takeR L t_semi >>= fun _ => pure k)) (pure (-1)) >>= fun k => takeR L t_rcur >>= fun _ => layR ({ tyP 9 with ex := x, inn := k, cases := cs } : TY)) = K := ⟨_, rfl⟩
 replace hT : (casesR L kd' (L.length - st4.i + 1) [] >>= K) st4 = (v, st') := by rw [← hK]; exact hT
 refine ex_join (X := RSt × List EX × List TY × List CA) (fun ⟨s, xl, tl, cs⟩ => ⟨[(0, .o P0), (3, .o (.c (.ptr 7 0)))], [(0, Rz L s 1 2 9 10), (3, .dead), (4, .dead), (7, .obj [.d (di 9), .d (di 0), .d (db false), .d (ds ⟨#[]⟩), .d dnil, .d (di x), .d (di (-1)), .row 11]), (9, Xr xl), (10, Tr tl), (11, .row 2 233 (cs.map caD))], 12⟩) (fun ⟨s, xl, tl, cs⟩ => Gd L m 3 920 s ∧ s.xs = xl ∧ s.ts = tl ∧ cs.length ≤ L.length + 1 ∧ K cs s = (v, st')) ?_ ?_
 ·refine ex_loop (X := RSt × List EX × List TY × List CA × Nat) (fun ⟨s, xl, tl, cs, _⟩ => ⟨[(0, .o P0), (3, .o (.c (.ptr 7 0)))], [(0, Rz L s 1 2 9 10), (3, .dead), (4, .dead), (7, .obj [.d (di 9), .d (di 0), .d (db false), .d (ds ⟨#[]⟩), .d dnil, .d (di x), .d (di (-1)), .row 11]), (9, Xr xl), (10, Tr tl), (11, .row 2 233 (cs.map caD))], 12⟩) (fun y => y.2.2.2.2)
   (fun ⟨s, xl, tl, cs, n⟩ => Gd L m 3 920 s ∧ s.xs = xl ∧ s.ts = tl ∧ (s.err = 0 → L.length < s.i + n ∧ cs.length ≤ s.i) ∧ cs.length ≤ L.length + 1 ∧ (casesR L kd' n cs >>= K) s = (v, st')) (st4, st2.xs, st.ts, [], L.length - st4.i + 1) ⟨hg4.le (by omega) (by omega), kx_st4, kt_st4, fun _ => ⟨by have := hg4.i; omega, Nat.zero_le _⟩, Nat.zero_le _, hT⟩ ?_ ?_
  ·exact SLe.thru (SLe.ownCell 7 7 9 2 233 rfl rfl rfl rfl rfl rfl) (sR [(0, 0), (1, 1), (2, 2), (3, 3), (4, 4), (7, 7), (8, 9), (6, 10), (9, 11)])
  clear hT kx_st1 kt_st1 kx_st2 kt_st2 kx_st3 kt_st3 kx_st4 kt_st4 kx_st kt_st hg4 hg3 hg2 hg1 h1 h2 h3 h4 hg
  rintro ⟨s, xl, tl, cs, n⟩ ⟨hs, kx_s, kt_s, hf, hcl, hT⟩
  have hsi9 := hs.i
  have h10 := hs.e
  by_cases he : s.err = 0
  ·obtain ⟨hf, hll⟩ := hf he
   cases n with
   | zero => omega
   | succ n =>
    rw [casesR] at hT
    replace hT := gdRyB hT he
    have his := ris_c s hsi9 w_case
    rcases hv : isV L s.i w_case with _ | _ <;> rw [hv] at his
    ·replace hT := atRnB hT hv
     replace hT : K cs s = (v, st') := hT
     repeat' (first | refine qgs ?_ | refine eD ?_ ?_ <;> intro)
     refine sC (CallsM.ren (his) [0, 1, 2, 9, 10] 12 rfl rfl rfl rfl) ?_
     repeat' (first | refine qgs ?_ | refine eD ?_ ?_ <;> intro)
     exact ex_meet (s, xl, tl, cs) ⟨hs, kx_s, kt_s, hcl, hT⟩ sS
    ·replace hT := atRyB hT hv
     have hs0 := hs.fresh he 400
     replace hT : (roomR cs.length >>= fun _ => takeR L w_case >>= fun _ => numberR L >>= fun c => takeR L t_colon >>= fun _ => innerR L kd' >>= fun k => takeR L t_semi >>= fun _ => casesR L kd' n (cs ++ [⟨c, k⟩]) >>= K) s = (v, st') := hT
     repeat' (first | refine qgs ?_ | refine eD ?_ ?_ <;> intro)
     refine sC (CallsM.ren (his) [0, 1, 2, 9, 10] 12 rfl rfl rfl rfl) ?_
     repeat' (first | refine ex_is cs.length (by simp) ?_ | refine qg1 ?_ | refine eD ?_ ?_ <;> intro)
     rcases q1 : (roomR cs.length) (s) with ⟨_, s1⟩
     replace hT := (rand q1).symm.trans hT
     refine sC (CallsM.ren ((rroom_c s cs.length (by omega)) _ _ q1) [0, 1, 2, 9, 10] 12 rfl rfl rfl rfl) ?_
     have kx_s1 := (keep_room q1).1.trans kx_s
     have kt_s1 := (keep_room q1).2.trans kt_s
     have g1 := (Sim.room (L := L) (m := m) cs.length 3).gd hs0 (by omega) q1
     have i1 := room_i q1
     repeat' (first | refine qgs ?_ | refine eD ?_ ?_ <;> intro)
     rcases q2 : (takeR L w_case) (s1) with ⟨_, s2⟩
     replace hT := (rand q2).symm.trans hT
     refine sC (CallsM.ren ((rtake_c s1 g1.i hn w_case) _ _ q2) [0, 1, 2, 9, 10] 12 rfl rfl rfl rfl) ?_
     have kx_s2 := (keep_take q2).1.trans kx_s1
     have kt_s2 := (keep_take q2).2.trans kt_s1
     have g2 := (Sim.take (m := m) hL w_case 3).gd g1 (by omega) q2
     repeat' (first | refine qgs ?_ | refine eD ?_ ?_ <;> intro)
     rcases q3 : (numberR L) (s2) with ⟨u, s3⟩
     replace hT := (rand q3).symm.trans hT
     refine sC (CallsM.ren ((rnum_c s2 g2.i hn) _ _ q3) [0, 1, 2, 9, 10] 12 rfl rfl rfl rfl) ?_
     have kx_s3 := (keep_num q3).1.trans kx_s2
     have kt_s3 := (keep_num q3).2.trans kt_s2
     have g3 := (Sim.number (m := m) hL 4).gd g2 (by omega) q3
     repeat' (first | refine qgs ?_ | refine eD ?_ ?_ <;> intro)
     rcases q4 : (takeR L t_colon) (s3) with ⟨_, s4⟩
     replace hT := (rand q4).symm.trans hT
     refine sC (CallsM.ren ((rtake_c s3 g3.i hn t_colon) _ _ q4) [0, 1, 2, 9, 10] 12 rfl rfl rfl rfl) ?_
     have kx_s4 := (keep_take q4).1.trans kx_s3
     have kt_s4 := (keep_take q4).2.trans kt_s3
     have g4 := (Sim.take (m := m) hL t_colon 5).gd g3 (by omega) q4
     repeat' (first | refine qgs ?_ | refine eD ?_ ?_ <;> intro)
     rcases q5 : (innerR L kd') (s4) with ⟨k, s5⟩
     replace hT := (rand q5).symm.trans hT
     refine sC (CallsM.ren ((hin s4 (g4.le (by omega) (by omega))) _ _ q5 _ _ kx_s4 kt_s4) [0, 1, 2, 9, 10] 12 rfl rfl rfl rfl) ?_
     have kx_s5 : s5.xs = s5.xs := rfl
     have kt_s5 : s5.ts = s5.ts := rfl
     have g5 := (hsi 6).gd g4 (by omega) q5
     repeat' (first | refine qgs ?_ | refine eD ?_ ?_ <;> intro)
     rcases q6 : (takeR L t_semi) (s5) with ⟨_, s6⟩
     replace hT := (rand q6).symm.trans hT
     refine sC (CallsM.ren ((rtake_c s5 g5.i hn t_semi) _ _ q6) [0, 1, 2, 12, 13] 14 rfl rfl rfl rfl) ?_
     have kx_s6 := (keep_take q6).1.trans kx_s5
     have kt_s6 := (keep_take q6).2.trans kt_s5
     have g6 := (Sim.take (m := m) hL t_semi 6).gd g5 (by omega) q6
     have hgrow : s6.err = 0 → s.i + 1 ≤ s6.i := fun h6 => by
      have a6 := (Sim.take (m := m) hL t_semi 6).grow g5 q6 h6
      have a5 := (hsi 6).grow g4 q5 a6.1
      have a4 := (Sim.take (m := m) hL t_colon 5).grow g3 q4 a5.1
      have a3 := (Sim.number (m := m) hL 4).grow g2 q3 a4.1
      have a2 := (Sim.take (m := m) hL w_case 3).grow g1 q2 a3.1
      rw [take_yes a2.1 (by rw [i1]; exact hv)] at q2
      obtain rfl := congrArg Prod.snd q2
      have a3' : s1.i + 1 ≤ s3.i := a3.2
      omega
     have hlc : (cs ++ [(⟨u, k⟩ : CA)]).length = cs.length + 1 := by simp
     repeat' (first | refine qgs ?_ | refine eD ?_ ?_ <;> intro)
     refine ex_app (cs.length) (1) 1000 (by first | rfl | (simp; done) | (simp; omega)) (by first | rfl | (simp; done) | (simp; omega)) rfl (by omega) ?_
     refine ex_is (List.map caD (cs ++ [⟨u, k⟩])) (by rw [List.map_append]; rfl) ?_
     repeat' (first | refine qgs ?_ | refine eD ?_ ?_ <;> intro)
     exact ex_round (s6, s5.xs, s5.ts, cs ++ [⟨u, k⟩], n) ⟨g6.le (by omega) (by omega), kx_s6, kt_s6, fun h => ⟨by have := hgrow h; omega, by rw [hlc]; have := hgrow h; omega⟩, by rw [hlc]; omega, hT⟩ (by show n < n + 1; omega) (sR [(0, 0), (1, 1), (2, 2), (3, 3), (4, 4), (7, 7), (12, 9), (13, 10), (15, 11)])
  ·replace hT := (rand (casesR_err he n cs)).symm.trans hT
   repeat' (first | refine qgs ?_ | refine eD ?_ ?_ <;> intro)
   exact ex_meet (s, xl, tl, cs) ⟨hs, kx_s, kt_s, hcl, hT⟩ sS
 ·clear hT kx_st1 kt_st1 kx_st2 kt_st2 kx_st3 kt_st3 kx_st4 kt_st4 kx_st kt_st hg4 hg3 hg2 hg1 h1 h2 h3 h4 hg
  rintro ⟨s, xl, tl, cs⟩ ⟨hs, kx_s, kt_s, hcl, hT⟩
  rw [← hK] at hT
  clear hK
  have hsi9 := hs.i
  have h10 := hs.e
  have his := ris_c s hsi9 w_else
  rcases hv : isV L s.i w_else with _ | _ <;> rw [hv] at his
  ·replace hT := atRnB hT hv
   replace hT : (takeR L t_rcur >>= fun _ => layR ({ tyP 9 with ex := x, inn := -1, cases := cs } : TY)) s = (v, st') := hT
   repeat' (first | refine qgs ?_ | refine eD ?_ ?_ <;> intro)
   refine sC (CallsM.ren (his) [0, 1, 2, 9, 10] 12 rfl rfl rfl rfl) ?_
   repeat' (first | refine qgs ?_ | refine eD ?_ ?_ <;> intro)
   rcases q1 : (takeR L t_rcur) (s) with ⟨_, s1⟩
   replace hT := (rand q1).symm.trans hT
   refine sC (CallsM.ren ((rtake_c s hsi9 hn t_rcur) _ _ q1) [0, 1, 2, 9, 10] 12 rfl rfl rfl rfl) ?_
   have kx_s1 := (keep_take q1).1.trans kx_s
   have kt_s1 := (keep_take q1).2.trans kt_s
   have g1 := (Sim.take (m := m) hL t_rcur 3).gd hs (by omega) q1
   have ht1 := g1.t
   obtain rfl : (s1.ts.length : Int) = v := congrArg Prod.fst hT
   obtain rfl : { s1 with ts := s1.ts ++ [({ tyP 9 with ex := x, inn := -1, cases := cs } : TY)] } = st' := congrArg Prod.snd hT
   repeat' (first | refine qgs ?_ | refine eD ?_ ?_ <;> intro)
   refine sC (CallsM.ren ((rlayc_c (L := L) s1 x (-1) cs (by omega) xl _ kt_s1)) [0, 1, 2, 9, 10] 12 rfl rfl rfl rfl) ?_
   repeat' (first | refine qgs ?_ | refine eD ?_ ?_ <;> intro)
   subst kx_s1
   exact ⟨rfl, TLe.rfl, rfl, rfl⟩
  ·replace hT := atRyB hT hv
   by_cases he : s.err = 0
   ·replace hT := gdRyB hT he
    replace hT : (takeR L w_else >>= fun _ => takeR L t_colon >>= fun _ => innerR L kd' >>= fun k => takeR L t_semi >>= fun _ => takeR L t_rcur >>= fun _ => layR ({ tyP 9 with ex := x, inn := k, cases := cs } : TY)) s = (v, st') := hT
    have hs0 := hs.fresh he 400
    repeat' (first | refine qgs ?_ | refine eD ?_ ?_ <;> intro)
    refine sC (CallsM.ren (his) [0, 1, 2, 9, 10] 12 rfl rfl rfl rfl) ?_
    repeat' (first | refine qgs ?_ | refine eD ?_ ?_ <;> intro)
    rcases q1 : (takeR L w_else) (s) with ⟨_, s1⟩
    replace hT := (rand q1).symm.trans hT
    refine sC (CallsM.ren ((rtake_c s hsi9 hn w_else) _ _ q1) [0, 1, 2, 9, 10] 12 rfl rfl rfl rfl) ?_
    have kx_s1 := (keep_take q1).1.trans kx_s
    have kt_s1 := (keep_take q1).2.trans kt_s
    have g1 := (Sim.take (m := m) hL w_else 3).gd hs0 (by omega) q1
    repeat' (first | refine qgs ?_ | refine eD ?_ ?_ <;> intro)
    rcases q2 : (takeR L t_colon) (s1) with ⟨_, s2⟩
    replace hT := (rand q2).symm.trans hT
    refine sC (CallsM.ren ((rtake_c s1 g1.i hn t_colon) _ _ q2) [0, 1, 2, 9, 10] 12 rfl rfl rfl rfl) ?_
    have kx_s2 := (keep_take q2).1.trans kx_s1
    have kt_s2 := (keep_take q2).2.trans kt_s1
    have g2 := (Sim.take (m := m) hL t_colon 4).gd g1 (by omega) q2
    repeat' (first | refine qgs ?_ | refine eD ?_ ?_ <;> intro)
    rcases q3 : (innerR L kd') (s2) with ⟨k, s3⟩
    replace hT := (rand q3).symm.trans hT
    refine sC (CallsM.ren ((hin s2 (g2.le (by omega) (by omega))) _ _ q3 _ _ kx_s2 kt_s2) [0, 1, 2, 9, 10] 12 rfl rfl rfl rfl) ?_
    have kx_s3 : s3.xs = s3.xs := rfl
    have kt_s3 : s3.ts = s3.ts := rfl
    have g3 := (hsi 5).gd g2 (by omega) q3
    repeat' (first | refine qgs ?_ | refine eD ?_ ?_ <;> intro)
    rcases q4 : (takeR L t_semi) (s3) with ⟨_, s4⟩
    replace hT := (rand q4).symm.trans hT
    refine sC (CallsM.ren ((rtake_c s3 g3.i hn t_semi) _ _ q4) [0, 1, 2, 12, 13] 14 rfl rfl rfl rfl) ?_
    have kx_s4 := (keep_take q4).1.trans kx_s3
    have kt_s4 := (keep_take q4).2.trans kt_s3
    have g4 := (Sim.take (m := m) hL t_semi 5).gd g3 (by omega) q4
    repeat' (first | refine qgs ?_ | refine eD ?_ ?_ <;> intro)
    rcases q5 : (takeR L t_rcur) (s4) with ⟨_, s5⟩
    replace hT := (rand q5).symm.trans hT
    refine sC (CallsM.ren ((rtake_c s4 g4.i hn t_rcur) _ _ q5) [0, 1, 2, 12, 13] 14 rfl rfl rfl rfl) ?_
    have kx_s5 := (keep_take q5).1.trans kx_s4
    have kt_s5 := (keep_take q5).2.trans kt_s4
    have g5 := (Sim.take (m := m) hL t_rcur 6).gd g4 (by omega) q5
    have ht1 := g5.t
    obtain rfl : (s5.ts.length : Int) = v := congrArg Prod.fst hT
    obtain rfl : { s5 with ts := s5.ts ++ [({ tyP 9 with ex := x, inn := k, cases := cs } : TY)] } = st' := congrArg Prod.snd hT
    repeat' (first | refine qgs ?_ | refine eD ?_ ?_ <;> intro)
    refine sC (CallsM.ren ((rlayc_c (L := L) s5 x k cs (by omega) s3.xs _ kt_s5)) [0, 1, 2, 12, 13] 14 rfl rfl rfl rfl) ?_
    repeat' (first | refine qgs ?_ | refine eD ?_ ?_ <;> intro)
    rw [← kx_s5]
    exact ⟨rfl, TLe.rfl, rfl, rfl⟩
   ·replace hT := gdRnB hT he
    replace hT : (takeR L t_rcur >>= fun _ => layR ({ tyP 9 with ex := x, inn := -1, cases := cs } : TY)) s = (v, st') := hT
    repeat' (first | refine qgs ?_ | refine eD ?_ ?_ <;> intro)
    refine sC (CallsM.ren (his) [0, 1, 2, 9, 10] 12 rfl rfl rfl rfl) ?_
    repeat' (first | refine qgs ?_ | refine eD ?_ ?_ <;> intro)
    rcases q1 : (takeR L t_rcur) (s) with ⟨_, s1⟩
    replace hT := (rand q1).symm.trans hT
    refine sC (CallsM.ren ((rtake_c s hsi9 hn t_rcur) _ _ q1) [0, 1, 2, 9, 10] 12 rfl rfl rfl rfl) ?_
    have kx_s1 := (keep_take q1).1.trans kx_s
    have kt_s1 := (keep_take q1).2.trans kt_s
    have g1 := (Sim.take (m := m) hL t_rcur 3).gd hs (by omega) q1
    have ht1 := g1.t
    obtain rfl : (s1.ts.length : Int) = v := congrArg Prod.fst hT
    obtain rfl : { s1 with ts := s1.ts ++ [({ tyP 9 with ex := x, inn := -1, cases := cs } : TY)] } = st' := congrArg Prod.snd hT
    repeat' (first | refine qgs ?_ | refine eD ?_ ?_ <;> intro)
    refine sC (CallsM.ren ((rlayc_c (L := L) s1 x (-1) cs (by omega) xl _ kt_s1)) [0, 1, 2, 9, 10] 12 rfl rfl rfl rfl) ?_
    repeat' (first | refine qgs ?_ | refine eD ?_ ?_ <;> intro)
    subst kx_s1
    exact ⟨rfl, TLe.rfl, rfl, rfl⟩
end
end Go.Proofs.YtoingpafcodojaaGreatDoor

namespace Go.Proofs.YtoingpafcodojaaGreatDoor
open Go.RowKit

section
variable {L : List TokP} {m : Nat}
theorem rkind_err {y : RM Int} {st : RSt} (he : st.err ≠ 0) (h10 : st.err ≤ 10) (hy : y st = (0, st)) : W2 L 69 [] y (fun k => Ti k) st := fun v st' hT X T hX hTt => by
 subst hX
 subst hTt
 rw [hy] at hT
 obtain rfl : (0 : Int) = v := congrArg Prod.fst hT
 obtain rfl : st = st' := congrArg Prod.snd hT
 refine fn_ruleP (C := ⟨Tryz.prog, layF, Tryz.f69.ntmps, ΓL, 5, [], []⟩) layF_ok mixed Tryz.func69 rfl (by kernel_rfl) rfl rfl rfl startR2 ?_
 repeat' (first | refine qgs ?_ | refine eD ?_ ?_ <;> intro)
 exact ⟨rfl, TLe.rfl, rfl, rfl⟩
theorem rarrayn_c (hL : TokOk L) (hn : L.length ≤ 100000) (hm : m ≤ 32) (k size : Nat) (little : Bool) (st : RSt) (hg : Gd L m 1 900 st) (v : Int) (st' : RSt) (hT : arrayR L m ⟨k, size, little, [], [], -1, -1, []⟩ st = (v, st')) (X : List EX) (T : List TY) (hX : st.xs = X) (hTt : st.ts = T) :
  CallsM Tryz.prog ΓL 89 [(0, Rz L st 1 2 3 4), (3, Xr X), (4, Tr T)] 5 [P0, gD [di k, di size, db little, ds ⟨#[]⟩, dnil, di (-1), di (-1), dnil]] (Ti v) [(0, Rz L st' 1 2 5 6), (3, .dead), (4, .dead)] [Xr st'.xs, Tr st'.ts] :=
 (rarray_c hL hn hm ⟨k, size, little, [], [], -1, -1, []⟩ st hg v st' hT X T hX hTt).argsLe (.cons T1Le.rfl (.cons (T1Le.g (.cons DLe.rfl (.cons DLe.rfl (.cons DLe.rfl (.cons DLe.rfl (.cons DLe.nil (.cons DLe.rfl (.cons DLe.rfl (.cons DLe.nil .nil))))))))) .nil))
set_option maxHeartbeats 16000000 in
theorem rkind_step (hL : TokOk L) (hn : L.length ≤ 100000) (hm : m ≤ 32) {kd : PM Int} {kd' : RM Int} {c : Nat} (hsm : ∀ m', m = m' + 1 → Sim L m' kd kd' 0 0 c 0) (hc : 1 ≤ c) (hc2 : c ≤ 400) (b1 : ∀ st, st.err ≠ 0 → kd' st = (0, st))
  (hkd : ∀ m', m = m' + 1 → ∀ st, Gd L m' 0 1000 st → W2 L 69 [] kd' (fun k => Ti k) st)
  (st : RSt) (hg : Gd L m 0 1000 st) : W2 L 69 [] (kindFR L m kd') (fun k => Ti k) st := fun v st' hT X T hX hTt => by
 subst hX
 subst hTt
 have kx_st : st.xs = st.xs := rfl
 have kt_st : st.ts = st.ts := rfl
 have hke : ∀ st, st.err ≠ 0 → st.err ≤ 10 → W2 L 69 [] kd' (fun k => Ti k) st := fun st he h10 => rkind_err he h10 (b1 st he)
 have hin : ∀ st, Gd L m 0 990 st → W2 L 92 [] (innerR L kd') (fun k => Ti k) st := fun st hg => rinner_c hn hm hsm hc (by omega) b1 hkd hke st hg
 have hsi := fun a => sim_inner (m := m) hsm (fun s h => by rw [b1 s h]; exact Stay.rfl) hc a
 have hi := hg.i
 have h10 := hg.e
 by_cases he : st.err = 0
 rotate_left
 ·exact rkind_err he h10 (if_neg he) v st' hT _ _ rfl rfl
 replace hT := gdRy hT he
 have hg0 := hg.fresh he 400
 have hnm := rnamed_c st hi
 rcases hv : namedV L st.i with _ | _ <;> rw [hv] at hnm
 rotate_left
 ·replace hT := atRy hT hv
  refine fn_ruleP (C := ⟨Tryz.prog, layF, Tryz.f69.ntmps, ΓL, 5, [], []⟩) layF_ok mixed Tryz.func69 rfl (by kernel_rfl) rfl rfl rfl startR2 ?_
  repeat' (first | refine qgs ?_ | refine eD ?_ ?_ <;> intro)
  refine sC (CallsM.ren (hnm) [0, 1, 2, 5, 6] 7 rfl rfl rfl rfl) ?_
  repeat' (first | refine qgs ?_ | refine eD ?_ ?_ <;> intro)
  rcases q1 : (refR L m) (st) with ⟨t, st1⟩
  replace hT := (rand q1).symm.trans hT
  refine sC (CallsM.ren ((rref_c hL hn hm st (hg0.le (by omega) (by omega))) _ _ q1 _ kx_st) [0, 1, 2, 5, 6] 7 rfl rfl rfl rfl) ?_
  have kx_st1 : st1.xs = st1.xs := rfl
  have kt_st1 := ((keepT_ref m).eq q1).trans kt_st
  have g1 := (sim_ref hL m).gd hg0 (by omega) q1
  repeat' (first | refine qgs ?_ | refine eD ?_ ?_ <;> intro)
  refine sC (CallsM.ren ((rarray_c hL hn hm t st1 (g1.le (by omega) (by omega))) _ _ hT _ _ kx_st1 kt_st1) [0, 1, 2, 7, 6] 9 rfl rfl rfl rfl) ?_
  repeat' (first | refine qgs ?_ | refine eD ?_ ?_ <;> intro)
  exact ⟨rfl, TLe.rfl, rfl, rfl⟩
 replace hT := atRn hT hv
 have hty := rtyped_c st hi
 rcases hv2 : startsV L st.i with _ | _ <;> rw [hv2] at hty
 ·replace hT := atRn hT hv2
  obtain rfl : (0 : Int) = v := congrArg Prod.fst hT
  obtain rfl : { st with err := 4 } = st' := congrArg Prod.snd hT
  have hf := rfail_c (L := L) st 4 (by omega)
  rw [show failR 4 st = { st with err := 4 } from if_pos he] at hf
  refine fn_ruleP (C := ⟨Tryz.prog, layF, Tryz.f69.ntmps, ΓL, 5, [], []⟩) layF_ok mixed Tryz.func69 rfl (by kernel_rfl) rfl rfl rfl startR2 ?_
  repeat' (first | refine qgs ?_ | refine eD ?_ ?_ <;> intro)
  refine sC (CallsM.ren (hnm) [0, 1, 2, 5, 6] 7 rfl rfl rfl rfl) ?_
  repeat' (first | refine qgs ?_ | refine eD ?_ ?_ <;> intro)
  refine sC (CallsM.ren (hty) [0, 1, 2, 5, 6] 7 rfl rfl rfl rfl) ?_
  repeat' (first | refine qgs ?_ | refine eD ?_ ?_ <;> intro)
  refine sC (CallsM.ren (hf) [0, 1, 2, 5, 6] 7 rfl rfl rfl rfl) ?_
  repeat' (first | refine qgs ?_ | refine eD ?_ ?_ <;> intro)
  exact ⟨rfl, TLe.rfl, rfl, rfl⟩
 ·replace hT := atRy hT hv2
  replace hT : wordR L m kd' (tk L st.i).t { st with i := st.i + 1 } = (v, st') := hT
  have hgs := hg0.step hL he (startsV_k hv2) 400
  have hk := tk_at hi
  clear hv hv2
  generalize tk L st.i = u at *
  obtain ⟨uk, w, un, ul, uc⟩ := u
  replace hT : wordR L m kd' w { st with i := st.i + 1 } = (v, st') := hT
  have hrow : ∀ {K : List D → Prop} , K [di uk, ds (bs w), du un, di ul, di uc] → ∃ r, 0 ≤ (st.i : Int) ∧ (L.map tokD)[(st.i : Int).toNat]? = some r ∧ K r := fun h => ex_rowE st.i _ _ rfl hk rfl h
  by_cases hmm : w ∈ typesL
  ·simp only [typesL, List.mem_cons, List.not_mem_nil, or_false] at hmm
   rcases hmm with rfl | rfl | rfl | rfl | rfl | rfl | rfl | rfl | rfl
   ·replace hT : (bracketR L m >>= fun x => layR ({ tyP 1 with ex := x, inn := -1 } : TY)) ({ st with i := st.i + 1 }) = (v, st') := by
     have h := hT
     unfold wordR at h
     rw [show sizedV w_bytes = some 1 by decide +kernel] at h
     dsimp only at h
     rw [if_neg (by decide)] at h
     exact h
    refine fn_ruleP (C := ⟨Tryz.prog, layF, Tryz.f69.ntmps, ΓL, 5, [], []⟩) layF_ok mixed Tryz.func69 rfl (by kernel_rfl) rfl rfl rfl startR2 ?_
    repeat' (first | refine qgs ?_ | refine eD ?_ ?_ <;> intro)
    refine sC (CallsM.ren (hnm) [0, 1, 2, 5, 6] 7 rfl rfl rfl rfl) ?_
    repeat' (first | refine qgs ?_ | refine eD ?_ ?_ <;> intro)
    refine sC (CallsM.ren (hty) [0, 1, 2, 5, 6] 7 rfl rfl rfl rfl) ?_
    repeat' (first | refine aI ((st.i + 1 : Nat) : Int) ?_ | refine aU ((st.i + 1 : Nat) : Int) ?_ | refine aB ((st.i + 1 : Nat) : Int) ?_ | refine hrow ?_ | refine qg1 ?_ | refine eD ?_ ?_ <;> intro)
    rcases q1 : (bracketR L m) ({ st with i := st.i + 1 }) with ⟨x, s2⟩
    replace hT := (rand q1).symm.trans hT
    refine sC (CallsM.ren ((rbracket_c hL hn hm { st with i := st.i + 1 } (hgs.le (by omega) (by omega))) _ _ q1 _ rfl) [0, 1, 2, 5, 6] 8 rfl rfl rfl rfl) ?_
    have kx_s2 : s2.xs = s2.xs := rfl
    have kt_s2 := ((keepT_bracket m).eq q1).trans rfl
    have g2 := (sim_bracket hL m 1).gd hgs (by omega) q1
    have ht2 := g2.t
    obtain rfl : (s2.ts.length : Int) = v := congrArg Prod.fst hT
    obtain rfl : { s2 with ts := s2.ts ++ [({ tyP 1 with ex := x, inn := -1 } : TY)] } = st' := congrArg Prod.snd hT
    repeat' (first | refine qgs ?_ | refine eD ?_ ?_ <;> intro)
    refine sC (CallsM.ren ((rlayn_c (L := L) s2 1 0 false [] x (-1) (by omega) s2.xs _ kt_s2)) [0, 1, 2, 8, 6] 9 rfl rfl rfl rfl) ?_
    repeat' (first | refine qgs ?_ | refine eD ?_ ?_ <;> intro)
    exact ⟨rfl, TLe.rfl, rfl, rfl⟩
   ·replace hT : (bracketR L m >>= fun x => layR ({ tyP 2 with ex := x, inn := -1 } : TY)) ({ st with i := st.i + 1 }) = (v, st') := by
     have h := hT
     unfold wordR at h
     rw [show sizedV w_zero = some 2 by decide +kernel] at h
     dsimp only at h
     rw [if_neg (by decide)] at h
     exact h
    refine fn_ruleP (C := ⟨Tryz.prog, layF, Tryz.f69.ntmps, ΓL, 5, [], []⟩) layF_ok mixed Tryz.func69 rfl (by kernel_rfl) rfl rfl rfl startR2 ?_
    repeat' (first | refine qgs ?_ | refine eD ?_ ?_ <;> intro)
    refine sC (CallsM.ren (hnm) [0, 1, 2, 5, 6] 7 rfl rfl rfl rfl) ?_
    repeat' (first | refine qgs ?_ | refine eD ?_ ?_ <;> intro)
    refine sC (CallsM.ren (hty) [0, 1, 2, 5, 6] 7 rfl rfl rfl rfl) ?_
    repeat' (first | refine aI ((st.i + 1 : Nat) : Int) ?_ | refine aU ((st.i + 1 : Nat) : Int) ?_ | refine aB ((st.i + 1 : Nat) : Int) ?_ | refine hrow ?_ | refine qg1 ?_ | refine eD ?_ ?_ <;> intro)
    rcases q1 : (bracketR L m) ({ st with i := st.i + 1 }) with ⟨x, s2⟩
    replace hT := (rand q1).symm.trans hT
    refine sC (CallsM.ren ((rbracket_c hL hn hm { st with i := st.i + 1 } (hgs.le (by omega) (by omega))) _ _ q1 _ rfl) [0, 1, 2, 5, 6] 8 rfl rfl rfl rfl) ?_
    have kx_s2 : s2.xs = s2.xs := rfl
    have kt_s2 := ((keepT_bracket m).eq q1).trans rfl
    have g2 := (sim_bracket hL m 1).gd hgs (by omega) q1
    have ht2 := g2.t
    obtain rfl : (s2.ts.length : Int) = v := congrArg Prod.fst hT
    obtain rfl : { s2 with ts := s2.ts ++ [({ tyP 2 with ex := x, inn := -1 } : TY)] } = st' := congrArg Prod.snd hT
    repeat' (first | refine qgs ?_ | refine eD ?_ ?_ <;> intro)
    refine sC (CallsM.ren ((rlayn_c (L := L) s2 2 0 false [] x (-1) (by omega) s2.xs _ kt_s2)) [0, 1, 2, 8, 6] 9 rfl rfl rfl rfl) ?_
    repeat' (first | refine qgs ?_ | refine eD ?_ ?_ <;> intro)
    exact ⟨rfl, TLe.rfl, rfl, rfl⟩
   ·replace hT : (bracketR L m >>= fun x => layR ({ tyP 3 with ex := x, inn := -1 } : TY)) ({ st with i := st.i + 1 }) = (v, st') := by
     have h := hT
     unfold wordR at h
     rw [show sizedV w_skip = some 3 by decide +kernel] at h
     dsimp only at h
     rw [if_neg (by decide)] at h
     exact h
    refine fn_ruleP (C := ⟨Tryz.prog, layF, Tryz.f69.ntmps, ΓL, 5, [], []⟩) layF_ok mixed Tryz.func69 rfl (by kernel_rfl) rfl rfl rfl startR2 ?_
    repeat' (first | refine qgs ?_ | refine eD ?_ ?_ <;> intro)
    refine sC (CallsM.ren (hnm) [0, 1, 2, 5, 6] 7 rfl rfl rfl rfl) ?_
    repeat' (first | refine qgs ?_ | refine eD ?_ ?_ <;> intro)
    refine sC (CallsM.ren (hty) [0, 1, 2, 5, 6] 7 rfl rfl rfl rfl) ?_
    repeat' (first | refine aI ((st.i + 1 : Nat) : Int) ?_ | refine aU ((st.i + 1 : Nat) : Int) ?_ | refine aB ((st.i + 1 : Nat) : Int) ?_ | refine hrow ?_ | refine qg1 ?_ | refine eD ?_ ?_ <;> intro)
    rcases q1 : (bracketR L m) ({ st with i := st.i + 1 }) with ⟨x, s2⟩
    replace hT := (rand q1).symm.trans hT
    refine sC (CallsM.ren ((rbracket_c hL hn hm { st with i := st.i + 1 } (hgs.le (by omega) (by omega))) _ _ q1 _ rfl) [0, 1, 2, 5, 6] 8 rfl rfl rfl rfl) ?_
    have kx_s2 : s2.xs = s2.xs := rfl
    have kt_s2 := ((keepT_bracket m).eq q1).trans rfl
    have g2 := (sim_bracket hL m 1).gd hgs (by omega) q1
    have ht2 := g2.t
    obtain rfl : (s2.ts.length : Int) = v := congrArg Prod.fst hT
    obtain rfl : { s2 with ts := s2.ts ++ [({ tyP 3 with ex := x, inn := -1 } : TY)] } = st' := congrArg Prod.snd hT
    repeat' (first | refine qgs ?_ | refine eD ?_ ?_ <;> intro)
    refine sC (CallsM.ren ((rlayn_c (L := L) s2 3 0 false [] x (-1) (by omega) s2.xs _ kt_s2)) [0, 1, 2, 8, 6] 9 rfl rfl rfl rfl) ?_
    repeat' (first | refine qgs ?_ | refine eD ?_ ?_ <;> intro)
    exact ⟨rfl, TLe.rfl, rfl, rfl⟩
   ·replace hT : (bracketR L m >>= fun x => innerR L kd' >>= fun i => layR ({ tyP 7 with ex := x, inn := i } : TY)) ({ st with i := st.i + 1 }) = (v, st') := by
     have h := hT
     unfold wordR at h
     rw [show sizedV w_window = some 7 by decide +kernel] at h
     dsimp only at h
     rw [if_pos (by decide)] at h
     exact h
    refine fn_ruleP (C := ⟨Tryz.prog, layF, Tryz.f69.ntmps, ΓL, 5, [], []⟩) layF_ok mixed Tryz.func69 rfl (by kernel_rfl) rfl rfl rfl startR2 ?_
    repeat' (first | refine qgs ?_ | refine eD ?_ ?_ <;> intro)
    refine sC (CallsM.ren (hnm) [0, 1, 2, 5, 6] 7 rfl rfl rfl rfl) ?_
    repeat' (first | refine qgs ?_ | refine eD ?_ ?_ <;> intro)
    refine sC (CallsM.ren (hty) [0, 1, 2, 5, 6] 7 rfl rfl rfl rfl) ?_
    repeat' (first | refine aI ((st.i + 1 : Nat) : Int) ?_ | refine aU ((st.i + 1 : Nat) : Int) ?_ | refine aB ((st.i + 1 : Nat) : Int) ?_ | refine hrow ?_ | refine qg1 ?_ | refine eD ?_ ?_ <;> intro)
    rcases q1 : (bracketR L m) ({ st with i := st.i + 1 }) with ⟨x, s2⟩
    replace hT := (rand q1).symm.trans hT
    refine sC (CallsM.ren ((rbracket_c hL hn hm { st with i := st.i + 1 } (hgs.le (by omega) (by omega))) _ _ q1 _ rfl) [0, 1, 2, 5, 6] 8 rfl rfl rfl rfl) ?_
    have kx_s2 : s2.xs = s2.xs := rfl
    have kt_s2 := ((keepT_bracket m).eq q1).trans rfl
    have g2 := (sim_bracket hL m 1).gd hgs (by omega) q1
    have ht2 := g2.t
    repeat' (first | refine qgs ?_ | refine eD ?_ ?_ <;> intro)
    rcases q2 : (innerR L kd') (s2) with ⟨k, s3⟩
    replace hT := (rand q2).symm.trans hT
    refine sC (CallsM.ren ((hin s2 (g2.le (by omega) (by omega))) _ _ q2 _ _ kx_s2 kt_s2) [0, 1, 2, 8, 6] 9 rfl rfl rfl rfl) ?_
    have kx_s3 : s3.xs = s3.xs := rfl
    have kt_s3 : s3.ts = s3.ts := rfl
    have g3 := (hsi 3).gd g2 (by omega) q2
    have ht3 := g3.t
    obtain rfl : (s3.ts.length : Int) = v := congrArg Prod.fst hT
    obtain rfl : { s3 with ts := s3.ts ++ [({ tyP 7 with ex := x, inn := k } : TY)] } = st' := congrArg Prod.snd hT
    repeat' (first | refine qgs ?_ | refine eD ?_ ?_ <;> intro)
    refine sC (CallsM.ren ((rlayn_c (L := L) s3 7 0 false [] x k (by omega) s3.xs _ rfl)) [0, 1, 2, 9, 10] 11 rfl rfl rfl rfl) ?_
    repeat' (first | refine qgs ?_ | refine eD ?_ ?_ <;> intro)
    exact ⟨rfl, TLe.rfl, rfl, rfl⟩
   ·replace hT : (bracketR L m >>= fun x => innerR L kd' >>= fun i => layR ({ tyP 8 with ex := x, inn := i } : TY)) ({ st with i := st.i + 1 }) = (v, st') := by
     have h := hT
     unfold wordR at h
     rw [show sizedV w_at = some 8 by decide +kernel] at h
     dsimp only at h
     rw [if_pos (by decide)] at h
     exact h
    refine fn_ruleP (C := ⟨Tryz.prog, layF, Tryz.f69.ntmps, ΓL, 5, [], []⟩) layF_ok mixed Tryz.func69 rfl (by kernel_rfl) rfl rfl rfl startR2 ?_
    repeat' (first | refine qgs ?_ | refine eD ?_ ?_ <;> intro)
    refine sC (CallsM.ren (hnm) [0, 1, 2, 5, 6] 7 rfl rfl rfl rfl) ?_
    repeat' (first | refine qgs ?_ | refine eD ?_ ?_ <;> intro)
    refine sC (CallsM.ren (hty) [0, 1, 2, 5, 6] 7 rfl rfl rfl rfl) ?_
    repeat' (first | refine aI ((st.i + 1 : Nat) : Int) ?_ | refine aU ((st.i + 1 : Nat) : Int) ?_ | refine aB ((st.i + 1 : Nat) : Int) ?_ | refine hrow ?_ | refine qg1 ?_ | refine eD ?_ ?_ <;> intro)
    rcases q1 : (bracketR L m) ({ st with i := st.i + 1 }) with ⟨x, s2⟩
    replace hT := (rand q1).symm.trans hT
    refine sC (CallsM.ren ((rbracket_c hL hn hm { st with i := st.i + 1 } (hgs.le (by omega) (by omega))) _ _ q1 _ rfl) [0, 1, 2, 5, 6] 8 rfl rfl rfl rfl) ?_
    have kx_s2 : s2.xs = s2.xs := rfl
    have kt_s2 := ((keepT_bracket m).eq q1).trans rfl
    have g2 := (sim_bracket hL m 1).gd hgs (by omega) q1
    have ht2 := g2.t
    repeat' (first | refine qgs ?_ | refine eD ?_ ?_ <;> intro)
    rcases q2 : (innerR L kd') (s2) with ⟨k, s3⟩
    replace hT := (rand q2).symm.trans hT
    refine sC (CallsM.ren ((hin s2 (g2.le (by omega) (by omega))) _ _ q2 _ _ kx_s2 kt_s2) [0, 1, 2, 8, 6] 9 rfl rfl rfl rfl) ?_
    have kx_s3 : s3.xs = s3.xs := rfl
    have kt_s3 : s3.ts = s3.ts := rfl
    have g3 := (hsi 3).gd g2 (by omega) q2
    have ht3 := g3.t
    obtain rfl : (s3.ts.length : Int) = v := congrArg Prod.fst hT
    obtain rfl : { s3 with ts := s3.ts ++ [({ tyP 8 with ex := x, inn := k } : TY)] } = st' := congrArg Prod.snd hT
    repeat' (first | refine qgs ?_ | refine eD ?_ ?_ <;> intro)
    refine sC (CallsM.ren ((rlayn_c (L := L) s3 8 0 false [] x k (by omega) s3.xs _ rfl)) [0, 1, 2, 9, 10] 11 rfl rfl rfl rfl) ?_
    repeat' (first | refine qgs ?_ | refine eD ?_ ?_ <;> intro)
    exact ⟨rfl, TLe.rfl, rfl, rfl⟩
   ·replace hT : (innerR L kd' >>= fun i => layR ({ tyP 6 with inn := i } : TY)) ({ st with i := st.i + 1 }) = (v, st') := by
     have h := hT
     unfold wordR at h
     rw [show sizedV w_rest = none by decide +kernel] at h
     dsimp only at h
     rw [if_pos rfl] at h
     exact h
    refine fn_ruleP (C := ⟨Tryz.prog, layF, Tryz.f69.ntmps, ΓL, 5, [], []⟩) layF_ok mixed Tryz.func69 rfl (by kernel_rfl) rfl rfl rfl startR2 ?_
    repeat' (first | refine qgs ?_ | refine eD ?_ ?_ <;> intro)
    refine sC (CallsM.ren (hnm) [0, 1, 2, 5, 6] 7 rfl rfl rfl rfl) ?_
    repeat' (first | refine qgs ?_ | refine eD ?_ ?_ <;> intro)
    refine sC (CallsM.ren (hty) [0, 1, 2, 5, 6] 7 rfl rfl rfl rfl) ?_
    repeat' (first | refine aI ((st.i + 1 : Nat) : Int) ?_ | refine aU ((st.i + 1 : Nat) : Int) ?_ | refine aB ((st.i + 1 : Nat) : Int) ?_ | refine hrow ?_ | refine qg1 ?_ | refine eD ?_ ?_ <;> intro)
    rcases q2 : (innerR L kd') ({ st with i := st.i + 1 }) with ⟨k, s3⟩
    replace hT := (rand q2).symm.trans hT
    refine sC (CallsM.ren ((hin { st with i := st.i + 1 } (hgs.le (by omega) (by omega))) _ _ q2 _ _ rfl rfl) [0, 1, 2, 5, 6] 8 rfl rfl rfl rfl) ?_
    have kx_s3 : s3.xs = s3.xs := rfl
    have kt_s3 : s3.ts = s3.ts := rfl
    have g3 := (hsi 1).gd hgs (by omega) q2
    have ht3 := g3.t
    obtain rfl : (s3.ts.length : Int) = v := congrArg Prod.fst hT
    obtain rfl : { s3 with ts := s3.ts ++ [({ tyP 6 with inn := k } : TY)] } = st' := congrArg Prod.snd hT
    repeat' (first | refine qgs ?_ | refine eD ?_ ?_ <;> intro)
    refine sC (CallsM.ren ((rlayn_c (L := L) s3 6 0 false [] (-1) k (by omega) s3.xs _ rfl)) [0, 1, 2, 8, 9] 10 rfl rfl rfl rfl) ?_
    repeat' (first | refine qgs ?_ | refine eD ?_ ?_ <;> intro)
    exact ⟨rfl, TLe.rfl, rfl, rfl⟩
   ·replace hT : layR (tyP 4) ({ st with i := st.i + 1 }) = (v, st') := by
     have h := hT
     unfold wordR at h
     rw [show sizedV w_tail = none by decide +kernel] at h
     dsimp only at h
     rw [if_neg (by decide), if_pos rfl] at h
     exact h
    have ht3 := hgs.t
    obtain rfl : (st.ts.length : Int) = v := congrArg Prod.fst hT
    obtain rfl : { st with i := st.i + 1, ts := st.ts ++ [tyP 4] } = st' := congrArg Prod.snd hT
    refine fn_ruleP (C := ⟨Tryz.prog, layF, Tryz.f69.ntmps, ΓL, 5, [], []⟩) layF_ok mixed Tryz.func69 rfl (by kernel_rfl) rfl rfl rfl startR2 ?_
    repeat' (first | refine qgs ?_ | refine eD ?_ ?_ <;> intro)
    refine sC (CallsM.ren (hnm) [0, 1, 2, 5, 6] 7 rfl rfl rfl rfl) ?_
    repeat' (first | refine qgs ?_ | refine eD ?_ ?_ <;> intro)
    refine sC (CallsM.ren (hty) [0, 1, 2, 5, 6] 7 rfl rfl rfl rfl) ?_
    repeat' (first | refine aI ((st.i + 1 : Nat) : Int) ?_ | refine aU ((st.i + 1 : Nat) : Int) ?_ | refine aB ((st.i + 1 : Nat) : Int) ?_ | refine hrow ?_ | refine qg1 ?_ | refine eD ?_ ?_ <;> intro)
    refine sC (CallsM.ren ((rlayn_c (L := L) { st with i := st.i + 1 } 4 0 false [] (-1) (-1) (by omega) st.xs _ rfl)) [0, 1, 2, 5, 6] 8 rfl rfl rfl rfl) ?_
    repeat' (first | refine qgs ?_ | refine eD ?_ ?_ <;> intro)
    exact ⟨rfl, TLe.rfl, rfl, rfl⟩
   ·replace hT : layR (tyP 11) ({ st with i := st.i + 1 }) = (v, st') := by
     have h := hT
     unfold wordR at h
     rw [show sizedV w_none = none by decide +kernel] at h
     dsimp only at h
     rw [if_neg (by decide), if_neg (by decide), if_pos rfl] at h
     exact h
    have ht3 := hgs.t
    obtain rfl : (st.ts.length : Int) = v := congrArg Prod.fst hT
    obtain rfl : { st with i := st.i + 1, ts := st.ts ++ [tyP 11] } = st' := congrArg Prod.snd hT
    refine fn_ruleP (C := ⟨Tryz.prog, layF, Tryz.f69.ntmps, ΓL, 5, [], []⟩) layF_ok mixed Tryz.func69 rfl (by kernel_rfl) rfl rfl rfl startR2 ?_
    repeat' (first | refine qgs ?_ | refine eD ?_ ?_ <;> intro)
    refine sC (CallsM.ren (hnm) [0, 1, 2, 5, 6] 7 rfl rfl rfl rfl) ?_
    repeat' (first | refine qgs ?_ | refine eD ?_ ?_ <;> intro)
    refine sC (CallsM.ren (hty) [0, 1, 2, 5, 6] 7 rfl rfl rfl rfl) ?_
    repeat' (first | refine aI ((st.i + 1 : Nat) : Int) ?_ | refine aU ((st.i + 1 : Nat) : Int) ?_ | refine aB ((st.i + 1 : Nat) : Int) ?_ | refine hrow ?_ | refine qg1 ?_ | refine eD ?_ ?_ <;> intro)
    refine sC (CallsM.ren ((rlayn_c (L := L) { st with i := st.i + 1 } 11 0 false [] (-1) (-1) (by omega) st.xs _ rfl)) [0, 1, 2, 5, 6] 8 rfl rfl rfl rfl) ?_
    repeat' (first | refine qgs ?_ | refine eD ?_ ?_ <;> intro)
    exact ⟨rfl, TLe.rfl, rfl, rfl⟩
   ·replace hT : choiceR L m kd' ({ st with i := st.i + 1 }) = (v, st') := by
     have h := hT
     unfold wordR at h
     rw [show sizedV w_switch = none by decide +kernel] at h
     dsimp only at h
     rw [if_neg (by decide), if_neg (by decide), if_neg (by decide), if_pos rfl] at h
     exact h
    refine fn_ruleP (C := ⟨Tryz.prog, layF, Tryz.f69.ntmps, ΓL, 5, [], []⟩) layF_ok mixed Tryz.func69 rfl (by kernel_rfl) rfl rfl rfl startR2 ?_
    repeat' (first | refine qgs ?_ | refine eD ?_ ?_ <;> intro)
    refine sC (CallsM.ren (hnm) [0, 1, 2, 5, 6] 7 rfl rfl rfl rfl) ?_
    repeat' (first | refine qgs ?_ | refine eD ?_ ?_ <;> intro)
    refine sC (CallsM.ren (hty) [0, 1, 2, 5, 6] 7 rfl rfl rfl rfl) ?_
    repeat' (first | refine aI ((st.i + 1 : Nat) : Int) ?_ | refine aU ((st.i + 1 : Nat) : Int) ?_ | refine aB ((st.i + 1 : Nat) : Int) ?_ | refine hrow ?_ | refine qg1 ?_ | refine eD ?_ ?_ <;> intro)
    refine sC (CallsM.ren ((rchoice_c hL hn hm hsm hc hc2 b1 hkd hke { st with i := st.i + 1 } (hgs.le (by omega) (by omega))) _ _ hT _ _ rfl rfl) [0, 1, 2, 5, 6] 8 rfl rfl rfl rfl) ?_
    repeat' (first | refine qgs ?_ | refine eD ?_ ?_ <;> intro)
    exact ⟨rfl, TLe.rfl, rfl, rfl⟩
  ·have hne : ∀ l, l ∈ typesL → ¬ bs w = bs l := fun l hl h => hmm (by rw [bsj.1 h]; exact hl)
   have hnw : ∀ l, l ∈ typesL → w ≠ l := fun l hl h => hmm (h ▸ hl)
   replace hT : arrayR L m { tyP 0 with size := ((integerV w).getD (0, false)).1, little := ((integerV w).getD (0, false)).2 } { st with i := st.i + 1 } = (v, st') := by
    have h := hT
    unfold wordR at h
    rw [show sizedV w = none by unfold sizedV; rw [if_neg (hnw _ (by decide)), if_neg (hnw _ (by decide)), if_neg (hnw _ (by decide)), if_neg (hnw _ (by decide)), if_neg (hnw _ (by decide))]] at h
    dsimp only at h
    rw [if_neg (hnw _ (by decide)), if_neg (hnw _ (by decide)), if_neg (hnw _ (by decide)), if_neg (hnw _ (by decide))] at h
    exact h
   have hcz := (rinteger_c w).gL
   obtain ⟨z, lt, hz, hz2⟩ : ∃ z lt, rintTV (integerV w) = .tup [c1 (di (z : Nat)), c1 (db lt)] ∧ (integerV w).getD (0, false) = (z, lt) := by
    rcases integerV w with _ | ⟨z, lt⟩
    ·exact ⟨0, false, rfl, rfl⟩
    ·exact ⟨z, lt, rfl, rfl⟩
   rw [hz] at hcz
   rw [hz2] at hT
   refine fn_ruleP (C := ⟨Tryz.prog, layF, Tryz.f69.ntmps, ΓL, 5, [], []⟩) layF_ok mixed Tryz.func69 rfl (by kernel_rfl) rfl rfl rfl startR2 ?_
   repeat' (first | refine qgs ?_ | refine eD ?_ ?_ <;> intro)
   refine sC (CallsM.ren (hnm) [0, 1, 2, 5, 6] 7 rfl rfl rfl rfl) ?_
   repeat' (first | refine qgs ?_ | refine eD ?_ ?_ <;> intro)
   refine sC (CallsM.ren (hty) [0, 1, 2, 5, 6] 7 rfl rfl rfl rfl) ?_
   repeat' (first | refine ex_call hcz ?_ | refine aI ((st.i + 1 : Nat) : Int) ?_ | refine aU ((st.i + 1 : Nat) : Int) ?_ | refine aB ((st.i + 1 : Nat) : Int) ?_ | refine ex_false (hne _ (by decide)) ?_ | refine hrow ?_ | refine qg1 ?_ | refine eD ?_ ?_ <;> intro)
   refine sC (CallsM.ren ((rarrayn_c hL hn hm 0 z lt { st with i := st.i + 1 } (hgs.le (by omega) (by omega)) v st' hT _ _ rfl rfl)) [0, 1, 2, 5, 6] 8 rfl rfl rfl rfl) ?_
   repeat' (first | refine qgs ?_ | refine eD ?_ ?_ <;> intro)
   exact ⟨rfl, TLe.rfl, rfl, rfl⟩
theorem kindR_err : ∀ m (st : RSt), st.err ≠ 0 → kindR L m st = (0, st)
 | 0, st, h => if_neg h
 | m + 1, st, h => if_neg h
theorem rkind_c (hL : TokOk L) (hn : L.length ≤ 100000) : ∀ m, m ≤ 32 → ∀ st, Gd L m 0 1000 st → W2 L 69 [] (kindR L m) (fun k => Ti k) st
 | 0, hm, st, hg => rkind_step hL hn hm (kd := pure 0) (kd' := pure 0) (c := 1) (fun _ h => by omega) (by omega) (by omega) (fun _ _ => rfl) (fun _ h => by omega) st hg
 | m + 1, hm, st, hg => rkind_step hL hn hm (kd := kindM L m) (kd' := kindR L m) (c := 12 + 9 * m) (fun m' h => by
    obtain rfl : m = m' := by omega
    exact sim_kind hL m) (by omega) (by omega) (kindR_err m) (fun m' h st hg => by
    obtain rfl : m = m' := by omega
    exact rkind_c hL hn m (by omega) st hg) st hg
end
end Go.Proofs.YtoingpafcodojaaGreatDoor

namespace Go.Proofs.YtoingpafcodojaaGreatDoor
open Go.RowKit

section
variable {L : List TokP} {m : Nat}
abbrev itn (w : List UInt8) (t : Int) (der : Nat) (a b : List UInt8) (x : Int) : List D := [ds (bs w), di t, di der, ds (bs a), ds (bs b), di x, di 0, db false, dnil]
def dersL : List (List UInt8) := [w_sizeof, w_countof, w_crc32, w_adler32]
theorem der_none {w : List UInt8} (h : w ∉ dersL) : derOf w = 0 := by
 have hn : ∀ l, l ∈ dersL → w ≠ l := fun l hl e => h (e ▸ hl)
 unfold derOf
 rw [if_neg (hn _ (by decide)), if_neg (hn _ (by decide)), if_neg (hn _ (by decide)), if_neg (hn _ (by decide))]
set_option maxHeartbeats 4000000 in
theorem rderived_c (hL : TokOk L) (hE : EndE L) (hn : L.length ≤ 100000) (w : List UInt8) (t : Int) (st : RSt) (he : st.err = 0) (hg : Gd L m 0 1000 st) : ∀ v st', derivedR L st = (v, st') →
  CallsM Tryz.prog ΓL 70 [(0, Rz L st 1 2 3 4)] 5 [P0, gD (itn w t 0 [] [] (-1))] (.o (gD (itn w t v.1 v.2.1 v.2.2 (-1)))) [(0, Rz L st' 1 2 3 4)] [] := fun v st' hT => by
 have kx_st : st.xs = st.xs := rfl
 have kt_st : st.ts = st.ts := rfl
 have hi := hg.i
 have hk := tk_at hi
 have hg0 := hg.fresh he 400
 unfold derivedR at hT
 have hE1 := hE st.i
 have hstep := fun h => hg0.step hL he h 400
 by_cases hd : derOf (tk L st.i).t = 0
 ·replace hT := atRn hT (by rw [decide_eq_true hd]; rfl)
  obtain rfl : ((0, [], []) : Nat × List UInt8 × List UInt8) = v := congrArg Prod.fst hT
  obtain rfl : failR 4 st = st' := congrArg Prod.snd hT
  have hne : ∀ l, l ∈ dersL → ¬ bs (tk L st.i).t = bs l := fun l hl h => by
   rw [bsj.1 h] at hd
   have : ∀ l ∈ dersL, derOf l ≠ 0 := by decide +kernel
   exact this l hl hd
  clear hE1 hstep
  generalize tk L st.i = u at *
  refine fn_ruleM (C := ⟨Tryz.prog, layF, Tryz.f70.ntmps, ΓL, 5, [], []⟩) layF_ok mixed Tryz.func70 rfl (by kernel_rfl) rfl rfl rfl ?_
  repeat' (first | refine ex_false (hne _ (by decide)) ?_ | refine (ex_row st.i u rfl hk) ?_ | refine qg1 ?_ | refine eD ?_ ?_ <;> intro)
  refine sC (CallsM.ren ((rfail_c (L := L) st 4 (by omega))) [0, 1, 2, 3, 4] 7 rfl rfl rfl rfl) ?_
  repeat' (first | refine qgs ?_ | refine eD ?_ ?_ <;> intro)
  exact ⟨rfl, TLe.rfl, rfl, rfl⟩
 ·replace hT := atRy hT (by rw [decide_eq_false hd]; rfl)
  have hgs := hstep (fun h3 => hd (by rw [hE1 h3]; decide +kernel))
  clear hE1 hstep
  generalize tk L st.i = u at *
  obtain ⟨uk, w9, un, ul, uc⟩ := u
  have hrow : ∀ {K : List D → Prop} , K [di uk, ds (bs w9), du un, di ul, di uc] → ∃ r, 0 ≤ (st.i : Int) ∧ (L.map tokD)[(st.i : Int).toNat]? = some r ∧ K r := fun h => ex_rowE st.i _ _ rfl hk rfl h
  have hm9 : w9 ∈ dersL := by
   by_cases h : w9 ∈ dersL
   ·exact h
   ·exact absurd (der_none h) hd
  simp only [dersL, List.mem_cons, List.not_mem_nil, or_false] at hm9
  rcases hm9 with rfl | rfl | rfl | rfl
  ·replace hT : (takeR L t_lpar >>= fun _ => nameR L >>= fun a => takeR L t_rpar >>= fun _ => pure (1, a, []) : RM (Nat × List UInt8 × List UInt8)) { st with i := st.i + 1 } = (v, st') := hT
   refine fn_ruleM (C := ⟨Tryz.prog, layF, Tryz.f70.ntmps, ΓL, 5, [], []⟩) layF_ok mixed Tryz.func70 rfl (by kernel_rfl) rfl rfl rfl ?_
   repeat' (first | refine aI ((st.i + 1 : Nat) : Int) ?_ | refine aU ((st.i + 1 : Nat) : Int) ?_ | refine aB ((st.i + 1 : Nat) : Int) ?_ | refine hrow ?_ | refine qg1 ?_ | refine eD ?_ ?_ <;> intro)
   rcases q1 : (takeR L t_lpar) ({ st with i := st.i + 1 }) with ⟨_, s1⟩
   replace hT := (rand q1).symm.trans hT
   refine sC (CallsM.ren ((rtake_c { st with i := st.i + 1 } hgs.i hn t_lpar) _ _ q1) [0, 1, 2, 3, 4] 7 rfl rfl rfl rfl) ?_
   have kx_s1 := (keep_take q1).1.trans rfl
   have kt_s1 := (keep_take q1).2.trans rfl
   have g1 := (Sim.take (m := m) hL t_lpar 1).gd hgs (by omega) q1
   repeat' (first | refine qgs ?_ | refine eD ?_ ?_ <;> intro)
   rcases q2 : (nameR L) (s1) with ⟨a, s2⟩
   replace hT := (rand q2).symm.trans hT
   refine sC (CallsM.ren ((rname_c s1 g1.i hn) _ _ q2) [0, 1, 2, 3, 4] 7 rfl rfl rfl rfl) ?_
   have kx_s2 := (keep_name q2).1.trans kx_s1
   have kt_s2 := (keep_name q2).2.trans kt_s1
   have g2 := (Sim.name (m := m) hL 2).gd g1 (by omega) q2
   repeat' (first | refine qgs ?_ | refine eD ?_ ?_ <;> intro)
   rcases q5 : (takeR L t_rpar) (s2) with ⟨_, s5⟩
   replace hT := (rand q5).symm.trans hT
   refine sC (CallsM.ren ((rtake_c s2 g2.i hn t_rpar) _ _ q5) [0, 1, 2, 3, 4] 7 rfl rfl rfl rfl) ?_
   have kx_s5 := (keep_take q5).1.trans kx_s2
   have kt_s5 := (keep_take q5).2.trans kt_s2
   obtain rfl : ((1, a, []) : Nat × List UInt8 × List UInt8) = v := congrArg Prod.fst hT
   obtain rfl : s5 = st' := congrArg Prod.snd hT
   repeat' (first | refine qgs ?_ | refine eD ?_ ?_ <;> intro)
   exact ⟨rfl, TLe.rfl, rfl, rfl⟩
  ·replace hT : (takeR L t_lpar >>= fun _ => nameR L >>= fun a => takeR L t_rpar >>= fun _ => pure (2, a, []) : RM (Nat × List UInt8 × List UInt8)) { st with i := st.i + 1 } = (v, st') := hT
   refine fn_ruleM (C := ⟨Tryz.prog, layF, Tryz.f70.ntmps, ΓL, 5, [], []⟩) layF_ok mixed Tryz.func70 rfl (by kernel_rfl) rfl rfl rfl ?_
   repeat' (first | refine aI ((st.i + 1 : Nat) : Int) ?_ | refine aU ((st.i + 1 : Nat) : Int) ?_ | refine aB ((st.i + 1 : Nat) : Int) ?_ | refine hrow ?_ | refine qg1 ?_ | refine eD ?_ ?_ <;> intro)
   rcases q1 : (takeR L t_lpar) ({ st with i := st.i + 1 }) with ⟨_, s1⟩
   replace hT := (rand q1).symm.trans hT
   refine sC (CallsM.ren ((rtake_c { st with i := st.i + 1 } hgs.i hn t_lpar) _ _ q1) [0, 1, 2, 3, 4] 7 rfl rfl rfl rfl) ?_
   have kx_s1 := (keep_take q1).1.trans rfl
   have kt_s1 := (keep_take q1).2.trans rfl
   have g1 := (Sim.take (m := m) hL t_lpar 1).gd hgs (by omega) q1
   repeat' (first | refine qgs ?_ | refine eD ?_ ?_ <;> intro)
   rcases q2 : (nameR L) (s1) with ⟨a, s2⟩
   replace hT := (rand q2).symm.trans hT
   refine sC (CallsM.ren ((rname_c s1 g1.i hn) _ _ q2) [0, 1, 2, 3, 4] 7 rfl rfl rfl rfl) ?_
   have kx_s2 := (keep_name q2).1.trans kx_s1
   have kt_s2 := (keep_name q2).2.trans kt_s1
   have g2 := (Sim.name (m := m) hL 2).gd g1 (by omega) q2
   repeat' (first | refine qgs ?_ | refine eD ?_ ?_ <;> intro)
   rcases q5 : (takeR L t_rpar) (s2) with ⟨_, s5⟩
   replace hT := (rand q5).symm.trans hT
   refine sC (CallsM.ren ((rtake_c s2 g2.i hn t_rpar) _ _ q5) [0, 1, 2, 3, 4] 7 rfl rfl rfl rfl) ?_
   have kx_s5 := (keep_take q5).1.trans kx_s2
   have kt_s5 := (keep_take q5).2.trans kt_s2
   obtain rfl : ((2, a, []) : Nat × List UInt8 × List UInt8) = v := congrArg Prod.fst hT
   obtain rfl : s5 = st' := congrArg Prod.snd hT
   repeat' (first | refine qgs ?_ | refine eD ?_ ?_ <;> intro)
   exact ⟨rfl, TLe.rfl, rfl, rfl⟩
  ·replace hT : (takeR L t_lpar >>= fun _ => nameR L >>= fun a => takeR L t_dots >>= fun _ => nameR L >>= fun b => takeR L t_rpar >>= fun _ => pure (3, a, b) : RM (Nat × List UInt8 × List UInt8)) { st with i := st.i + 1 } = (v, st') := hT
   refine fn_ruleM (C := ⟨Tryz.prog, layF, Tryz.f70.ntmps, ΓL, 5, [], []⟩) layF_ok mixed Tryz.func70 rfl (by kernel_rfl) rfl rfl rfl ?_
   repeat' (first | refine aI ((st.i + 1 : Nat) : Int) ?_ | refine aU ((st.i + 1 : Nat) : Int) ?_ | refine aB ((st.i + 1 : Nat) : Int) ?_ | refine hrow ?_ | refine qg1 ?_ | refine eD ?_ ?_ <;> intro)
   rcases q1 : (takeR L t_lpar) ({ st with i := st.i + 1 }) with ⟨_, s1⟩
   replace hT := (rand q1).symm.trans hT
   refine sC (CallsM.ren ((rtake_c { st with i := st.i + 1 } hgs.i hn t_lpar) _ _ q1) [0, 1, 2, 3, 4] 7 rfl rfl rfl rfl) ?_
   have kx_s1 := (keep_take q1).1.trans rfl
   have kt_s1 := (keep_take q1).2.trans rfl
   have g1 := (Sim.take (m := m) hL t_lpar 1).gd hgs (by omega) q1
   repeat' (first | refine qgs ?_ | refine eD ?_ ?_ <;> intro)
   rcases q2 : (nameR L) (s1) with ⟨a, s2⟩
   replace hT := (rand q2).symm.trans hT
   refine sC (CallsM.ren ((rname_c s1 g1.i hn) _ _ q2) [0, 1, 2, 3, 4] 7 rfl rfl rfl rfl) ?_
   have kx_s2 := (keep_name q2).1.trans kx_s1
   have kt_s2 := (keep_name q2).2.trans kt_s1
   have g2 := (Sim.name (m := m) hL 2).gd g1 (by omega) q2
   repeat' (first | refine qgs ?_ | refine eD ?_ ?_ <;> intro)
   rcases q3 : (takeR L t_dots) (s2) with ⟨_, s3⟩
   replace hT := (rand q3).symm.trans hT
   refine sC (CallsM.ren ((rtake_c s2 g2.i hn t_dots) _ _ q3) [0, 1, 2, 3, 4] 7 rfl rfl rfl rfl) ?_
   have kx_s3 := (keep_take q3).1.trans kx_s2
   have kt_s3 := (keep_take q3).2.trans kt_s2
   have g3 := (Sim.take (m := m) hL t_dots 3).gd g2 (by omega) q3
   repeat' (first | refine qgs ?_ | refine eD ?_ ?_ <;> intro)
   rcases q4 : (nameR L) (s3) with ⟨b, s4⟩
   replace hT := (rand q4).symm.trans hT
   refine sC (CallsM.ren ((rname_c s3 g3.i hn) _ _ q4) [0, 1, 2, 3, 4] 7 rfl rfl rfl rfl) ?_
   have kx_s4 := (keep_name q4).1.trans kx_s3
   have kt_s4 := (keep_name q4).2.trans kt_s3
   have g4 := (Sim.name (m := m) hL 4).gd g3 (by omega) q4
   repeat' (first | refine qgs ?_ | refine eD ?_ ?_ <;> intro)
   rcases q5 : (takeR L t_rpar) (s4) with ⟨_, s5⟩
   replace hT := (rand q5).symm.trans hT
   refine sC (CallsM.ren ((rtake_c s4 g4.i hn t_rpar) _ _ q5) [0, 1, 2, 3, 4] 7 rfl rfl rfl rfl) ?_
   have kx_s5 := (keep_take q5).1.trans kx_s4
   have kt_s5 := (keep_take q5).2.trans kt_s4
   obtain rfl : ((3, a, b) : Nat × List UInt8 × List UInt8) = v := congrArg Prod.fst hT
   obtain rfl : s5 = st' := congrArg Prod.snd hT
   repeat' (first | refine qgs ?_ | refine eD ?_ ?_ <;> intro)
   exact ⟨rfl, TLe.rfl, rfl, rfl⟩
  ·replace hT : (takeR L t_lpar >>= fun _ => nameR L >>= fun a => takeR L t_dots >>= fun _ => nameR L >>= fun b => takeR L t_rpar >>= fun _ => pure (4, a, b) : RM (Nat × List UInt8 × List UInt8)) { st with i := st.i + 1 } = (v, st') := hT
   refine fn_ruleM (C := ⟨Tryz.prog, layF, Tryz.f70.ntmps, ΓL, 5, [], []⟩) layF_ok mixed Tryz.func70 rfl (by kernel_rfl) rfl rfl rfl ?_
   repeat' (first | refine aI ((st.i + 1 : Nat) : Int) ?_ | refine aU ((st.i + 1 : Nat) : Int) ?_ | refine aB ((st.i + 1 : Nat) : Int) ?_ | refine hrow ?_ | refine qg1 ?_ | refine eD ?_ ?_ <;> intro)
   rcases q1 : (takeR L t_lpar) ({ st with i := st.i + 1 }) with ⟨_, s1⟩
   replace hT := (rand q1).symm.trans hT
   refine sC (CallsM.ren ((rtake_c { st with i := st.i + 1 } hgs.i hn t_lpar) _ _ q1) [0, 1, 2, 3, 4] 7 rfl rfl rfl rfl) ?_
   have kx_s1 := (keep_take q1).1.trans rfl
   have kt_s1 := (keep_take q1).2.trans rfl
   have g1 := (Sim.take (m := m) hL t_lpar 1).gd hgs (by omega) q1
   repeat' (first | refine qgs ?_ | refine eD ?_ ?_ <;> intro)
   rcases q2 : (nameR L) (s1) with ⟨a, s2⟩
   replace hT := (rand q2).symm.trans hT
   refine sC (CallsM.ren ((rname_c s1 g1.i hn) _ _ q2) [0, 1, 2, 3, 4] 7 rfl rfl rfl rfl) ?_
   have kx_s2 := (keep_name q2).1.trans kx_s1
   have kt_s2 := (keep_name q2).2.trans kt_s1
   have g2 := (Sim.name (m := m) hL 2).gd g1 (by omega) q2
   repeat' (first | refine qgs ?_ | refine eD ?_ ?_ <;> intro)
   rcases q3 : (takeR L t_dots) (s2) with ⟨_, s3⟩
   replace hT := (rand q3).symm.trans hT
   refine sC (CallsM.ren ((rtake_c s2 g2.i hn t_dots) _ _ q3) [0, 1, 2, 3, 4] 7 rfl rfl rfl rfl) ?_
   have kx_s3 := (keep_take q3).1.trans kx_s2
   have kt_s3 := (keep_take q3).2.trans kt_s2
   have g3 := (Sim.take (m := m) hL t_dots 3).gd g2 (by omega) q3
   repeat' (first | refine qgs ?_ | refine eD ?_ ?_ <;> intro)
   rcases q4 : (nameR L) (s3) with ⟨b, s4⟩
   replace hT := (rand q4).symm.trans hT
   refine sC (CallsM.ren ((rname_c s3 g3.i hn) _ _ q4) [0, 1, 2, 3, 4] 7 rfl rfl rfl rfl) ?_
   have kx_s4 := (keep_name q4).1.trans kx_s3
   have kt_s4 := (keep_name q4).2.trans kt_s3
   have g4 := (Sim.name (m := m) hL 4).gd g3 (by omega) q4
   repeat' (first | refine qgs ?_ | refine eD ?_ ?_ <;> intro)
   rcases q5 : (takeR L t_rpar) (s4) with ⟨_, s5⟩
   replace hT := (rand q5).symm.trans hT
   refine sC (CallsM.ren ((rtake_c s4 g4.i hn t_rpar) _ _ q5) [0, 1, 2, 3, 4] 7 rfl rfl rfl rfl) ?_
   have kx_s5 := (keep_take q5).1.trans kx_s4
   have kt_s5 := (keep_take q5).2.trans kt_s4
   obtain rfl : ((4, a, b) : Nat × List UInt8 × List UInt8) = v := congrArg Prod.fst hT
   obtain rfl : s5 = st' := congrArg Prod.snd hT
   repeat' (first | refine qgs ?_ | refine eD ?_ ?_ <;> intro)
   exact ⟨rfl, TLe.rfl, rfl, rfl⟩
end
end Go.Proofs.YtoingpafcodojaaGreatDoor

namespace Go.Proofs.YtoingpafcodojaaGreatDoor
open Go.RowKit

section
variable {L : List TokP}
theorem itnLe {w a b : List UInt8} {t x : Int} {der : Nat} : TLe (.o (gD (itn w t der a b x))) (.o (gD (itD ⟨w, t, der, a, b, x, 0, false, []⟩))) :=
 TLe.o (T1Le.g (.cons DLe.rfl (.cons DLe.rfl (.cons DLe.rfl (.cons DLe.rfl (.cons DLe.rfl (.cons DLe.rfl (.cons DLe.rfl (.cons DLe.rfl (.cons DLe.nil .nil))))))))))
theorem keep_derived (hL : TokOk L) {st st1 : RSt} {v : Nat × List UInt8 × List UInt8} (h : derivedR L st = (v, st1)) : st1.xs = st.xs ∧ st1.ts = st.ts := by
 have kx : ∀ {α β : Type} {x : RM α} {f : α → RM β}, (∀ s, (x s).2.xs = s.xs ∧ (x s).2.ts = s.ts) → (∀ v s, (f v s).2.xs = s.xs ∧ (f v s).2.ts = s.ts) → ∀ s, ((x >>= f) s).2.xs = s.xs ∧ ((x >>= f) s).2.ts = s.ts := fun {α β x f} h1 h2 s =>
  ⟨(h2 (x s).1 (x s).2).1.trans (h1 s).1, (h2 (x s).1 (x s).2).2.trans (h1 s).2⟩
 have kt : ∀ t s, (takeR L t s).2.xs = s.xs ∧ (takeR L t s).2.ts = s.ts := fun t s => keep_take (v := (takeR L t s).1) rfl
 have kn : ∀ s, (nameR L s).2.xs = s.xs ∧ (nameR L s).2.ts = s.ts := fun s => keep_name (v := (nameR L s).1) rfl
 have key : (derivedR L st).2.xs = st.xs ∧ (derivedR L st).2.ts = st.ts := by
  unfold derivedR atR
  by_cases hp : (!decide (derOf (tk L st.i).t = 0)) = true
  ·rw [if_pos hp]
   refine kx (fun s => ⟨rfl, rfl⟩) (fun _ => kx (kt _) fun _ => kx kn fun a => kx ?_ fun b => kx (kt _) fun _ s => ⟨rfl, rfl⟩) st
   split
   ·exact kx (kt _) fun _ => kn
   ·exact fun s => ⟨rfl, rfl⟩
  ·rw [if_neg hp]; exact keep_fail
 rw [h] at key
 exact key
theorem Sim0.gd {m : Nat} {α : Type} {x : PM α} {y : RM α} {a a' c b : Nat} (h : Sim0 L m x y a a' c) {st st' : RSt} {v : α} (hg : Gd L m a b st) (he : st.err = 0) (hc : c ≤ b) (hx : y st = (v, st')) : Gd L m a' b st' := by
 have hs := hg.ok he
 have h1 := h.ok 0 _ (by rw [Nat.zero_add]; exact hs)
 have hu := h.up _ 0 (by rw [Nat.zero_add]; exact hs)
 rw [← hg.emb he] at h1
 revert h1 hu
 cases x ⟨st.i, st.xs, st.ts⟩ with
 | ok w t =>
  intro h1 hu
  dsimp only at h1 hu
  rw [hx] at h1
  cases h1
  exact gd_emb (by have := hu.1; rwa [Nat.zero_add] at this)
 | err i e =>
  intro h1 hu
  dsimp only at h1 hu
  rw [hx] at h1
  have h1 : Bad L m c i e st' := h1
  exact ⟨by rw [h1.i]; exact hu.2.1, by have := h1.x; omega, by have := h1.t; omega, by have := h1.d1; omega, h1.d2, by rw [h1.e]; exact hu.2.2.2, fun h0 => by rw [h1.e] at h0; omega, fun h0 => by rw [h1.e] at h0; omega⟩
set_option maxHeartbeats 8000000 in
theorem rfield_c (hL : TokOk L) (hE : EndE L) (hn : L.length ≤ 100000) (st : RSt) (hg : Gd L 32 0 900 st) : W2 L 47 [] (fieldR L) (fun x => .o (gD (itD x))) st := fun v st' hT X T hX hTt => by
 subst hX
 subst hTt
 have kx_st : st.xs = st.xs := rfl
 have kt_st : st.ts = st.ts := rfl
 unfold fieldR at hT
 refine fn_ruleP (C := ⟨Tryz.prog, layF, Tryz.f47.ntmps, ΓL, 5, [], [9,13]⟩) layF_ok mixed Tryz.func47 rfl (by kernel_rfl) rfl rfl rfl startR2 ?_
 repeat' (first | refine qgs ?_ | refine eD ?_ ?_ <;> intro)
 rcases q1 : (nameR L) (st) with ⟨w, s1⟩
 replace hT := (rand q1).symm.trans hT
 refine sC (CallsM.ren ((rname_c st hg.i hn) _ _ q1) [0, 1, 2, 5, 6] 8 rfl rfl rfl rfl) ?_
 have kx_s1 := (keep_name q1).1.trans kx_st
 have kt_s1 := (keep_name q1).2.trans kt_st
 have g1 := (Sim.name (m := 32) hL 0).gd hg (by omega) q1
 repeat' (first | refine qgs ?_ | refine eD ?_ ?_ <;> intro)
 rcases q2 : (takeR L t_colon) (s1) with ⟨_, s2⟩
 replace hT := (rand q2).symm.trans hT
 refine sC (CallsM.ren ((rtake_c s1 g1.i hn t_colon) _ _ q2) [0, 1, 2, 5, 6] 9 rfl rfl rfl rfl) ?_
 have kx_s2 := (keep_take q2).1.trans kx_s1
 have kt_s2 := (keep_take q2).2.trans kt_s1
 have g2 := (Sim.take (m := 32) hL t_colon 1).gd g1 (by omega) q2
 repeat' (first | refine qgs ?_ | refine eD ?_ ?_ <;> intro)
 rcases q3 : (kindR L 32) (s2) with ⟨t, s3⟩
 replace hT := (rand q3).symm.trans hT
 refine sC (CallsM.ren ((rkind_c hL hn 32 (by omega) s2 (g2.le (by omega) (by omega))) _ _ q3 _ _ kx_s2 kt_s2) [0, 1, 2, 5, 6] 9 rfl rfl rfl rfl) ?_
 have kx_s3 : s3.xs = s3.xs := rfl
 have kt_s3 : s3.ts = s3.ts := rfl
 have g3 := ((sim_kind hL 32).less (a' := 2) (b' := 2) 2 (by omega) (by omega)).gd g2 (by omega) q3
 have his := ris_c s3 g3.i t_eq
 have h10 := g3.e
 repeat' (first | refine qgs ?_ | refine eD ?_ ?_ <;> intro)
 obtain ⟨K, hK⟩ : ∃ K : Nat × List UInt8 × List UInt8 → RM IT, (fun d : Nat × List UInt8 × List UInt8 => atR (isV L · w_where) (guardR (-1) (takeR L w_where >>= fun _ => exprR L 32)) (pure (-1)) >>= fun x => takeR L t_semi >>= fun _ => pure (⟨w, t, d.1, d.2.1, d.2.2, x, 0, false, []⟩ : IT)) = K := ⟨_, rfl⟩
 replace hT : (atR (isV L · t_eq) (guardR (0, [], []) (takeR L t_eq >>= fun _ => derivedR L)) (pure (0, [], [])) >>= K) s3 = (v, st') := by rw [← hK]; exact hT
 obtain ⟨b, hv⟩ : ∃ b, isV L s3.i t_eq = b := ⟨_, rfl⟩
 rw [hv] at his
 refine sC (CallsM.ren (his) [0, 1, 2, 9, 10] 11 rfl rfl rfl rfl) ?_
 repeat' (first | refine qgs ?_ | refine eD ?_ ?_ <;> intro)
 refine ex_join (X := RSt × List EX × List TY × (Nat × List UInt8 × List UInt8)) (fun ⟨s, xl, tl, d⟩ => ⟨[(0, .o P0), (2, .o (.c (.ptr 7 0))), (4, .o (.c (.ptr 8 0)))], [(0, Rz L s 1 2 9 10), (3, .dead), (4, .dead), (7, .obj [.d (ds ⟨#[]⟩), .d (di 0), .d (di 0), .d (ds ⟨#[]⟩), .d (ds ⟨#[]⟩), .d (di 0), .d (di 0), .d (db false), .d dnil]), (8, .obj [.d (ds (bs w)), .d (di t), .d (di d.1), .d (ds (bs d.2.1)), .d (ds (bs d.2.2)), .d (di (-1)), .d (di 0), .d (db false), .d dnil]), (9, Xr xl), (10, Tr tl)], 11⟩) (fun ⟨s, xl, tl, d⟩ => Gd L 32 2 920 s ∧ s.xs = xl ∧ s.ts = tl ∧ K d s = (v, st')) ?_ ?_
 ·cases b
  ·replace hT := atRnB hT hv
   replace hT : K (0, [], []) s3 = (v, st') := hT
   repeat' (first | refine qgs ?_ | refine eD ?_ ?_ <;> intro)
   exact ex_meet (s3, s3.xs, s3.ts, (0, [], [])) ⟨g3.le (by omega) (by omega), rfl, rfl, hT⟩ sS
  ·replace hT := atRyB hT hv
   by_cases he : s3.err = 0
   ·replace hT := gdRyB hT he
    replace hT : (takeR L t_eq >>= fun _ => derivedR L >>= K) s3 = (v, st') := hT
    have g3' := g3.fresh he 400
    repeat' (first | refine qgs ?_ | refine eD ?_ ?_ <;> intro)
    rcases q4 : (takeR L t_eq) (s3) with ⟨_, s4⟩
    replace hT := (rand q4).symm.trans hT
    refine sC (CallsM.ren ((rtake_c s3 g3.i hn t_eq) _ _ q4) [0, 1, 2, 9, 10] 11 rfl rfl rfl rfl) ?_
    have kx_s4 := (keep_take q4).1.trans kx_s3
    have kt_s4 := (keep_take q4).2.trans kt_s3
    have g4 := (Sim.take (m := 32) hL t_eq 2).gd g3' (by omega) q4
    have he4 : s4.err = 0 := by
     rw [take_yes he hv] at q4
     have e4 : { s3 with i := s3.i + 1 } = s4 := congrArg Prod.snd q4
     rw [← e4]
     exact he
    rcases q5 : derivedR L s4 with ⟨d, s5⟩
    replace hT := (rand q5).symm.trans hT
    have g5 := ((sim_derived (m := 32) hL hE 2).less 0 (a' := 3) (b' := 2) (by omega) (by omega)).gd g4 he4 (by omega) q5
    have kd5 := keep_derived hL q5
    have hcd := rderived_c hL hE hn w t s4 he4 (g4.le (by omega) (by omega)) _ _ q5
    repeat' (first | refine qgs ?_ | refine eD ?_ ?_ <;> intro)
    refine sC (CallsM.ren (hcd) [0, 1, 2, 9, 10] 11 rfl rfl rfl rfl) ?_
    repeat' (first | refine qgs ?_ | refine eD ?_ ?_ <;> intro)
    exact ex_meet (s5, s3.xs, s3.ts, d) ⟨g5.le (by omega) (by omega), kd5.1.trans kx_s4, kd5.2.trans kt_s4, hT⟩ sS
   ·replace hT := gdRnB hT he
    repeat' (first | refine qgs ?_ | refine eD ?_ ?_ <;> intro)
    exact ex_meet (s3, s3.xs, s3.ts, (0, [], [])) ⟨g3.le (by omega) (by omega), rfl, rfl, hT⟩ sS
 clear hT hv his g1 g2 g3 q1 q2 q3 kx_st kt_st kx_s1 kt_s1 kx_s2 kt_s2 kx_s3 kt_s3 h10 hg
 rintro ⟨s, xl, tl, d⟩ ⟨hs, kx_s, kt_s, hT⟩
 rw [← hK] at hT
 clear hK
 have h10 := hs.e
 have his := ris_c s hs.i w_where
 obtain ⟨b, hv⟩ : ∃ b, isV L s.i w_where = b := ⟨_, rfl⟩
 rw [hv] at his
 repeat' (first | refine qgs ?_ | refine eD ?_ ?_ <;> intro)
 refine sC (CallsM.ren (his) [0, 1, 2, 9, 10] 11 rfl rfl rfl rfl) ?_
 repeat' (first | refine qgs ?_ | refine eD ?_ ?_ <;> intro)
 refine ex_join (X := RSt × List EX × List TY × Int) (fun ⟨s, xl, tl, x⟩ => ⟨[(0, .o P0), (2, .o (.c (.ptr 7 0))), (4, .o (.c (.ptr 8 0)))], [(0, Rz L s 1 2 9 10), (3, .dead), (4, .dead), (7, .obj [.d (ds ⟨#[]⟩), .d (di 0), .d (di 0), .d (ds ⟨#[]⟩), .d (ds ⟨#[]⟩), .d (di 0), .d (di 0), .d (db false), .d dnil]), (8, .obj [.d (ds (bs w)), .d (di t), .d (di d.1), .d (ds (bs d.2.1)), .d (ds (bs d.2.2)), .d (di x), .d (di 0), .d (db false), .d dnil]), (9, Xr xl), (10, Tr tl)], 11⟩) (fun ⟨s, xl, tl, x⟩ => Gd L 32 2 940 s ∧ s.xs = xl ∧ s.ts = tl ∧ (takeR L t_semi >>= fun _ => pure (⟨w, t, d.1, d.2.1, d.2.2, x, 0, false, []⟩ : IT)) s = (v, st')) ?_ ?_
 ·cases b
  ·replace hT := atRnB hT hv
   repeat' (first | refine qgs ?_ | refine eD ?_ ?_ <;> intro)
   exact ex_meet (s, xl, tl, -1) ⟨hs.le (by omega) (by omega), kx_s, kt_s, hT⟩ sS
  ·replace hT := atRyB hT hv
   by_cases he : s.err = 0
   ·replace hT := gdRyB hT he
    replace hT : (takeR L w_where >>= fun _ => exprR L 32 >>= fun x => takeR L t_semi >>= fun _ => pure (⟨w, t, d.1, d.2.1, d.2.2, x, 0, false, []⟩ : IT)) s = (v, st') := hT
    have hs' := hs.fresh he 400
    repeat' (first | refine qgs ?_ | refine eD ?_ ?_ <;> intro)
    rcases q4 : (takeR L w_where) (s) with ⟨_, s4⟩
    replace hT := (rand q4).symm.trans hT
    refine sC (CallsM.ren ((rtake_c s hs.i hn w_where) _ _ q4) [0, 1, 2, 9, 10] 11 rfl rfl rfl rfl) ?_
    have kx_s4 := (keep_take q4).1.trans kx_s
    have kt_s4 := (keep_take q4).2.trans kt_s
    have g4 := (Sim.take (m := 32) hL w_where 2).gd hs' (by omega) q4
    repeat' (first | refine qgs ?_ | refine eD ?_ ?_ <;> intro)
    rcases q5 : (exprR L 32) (s4) with ⟨x, s5⟩
    replace hT := (rand q5).symm.trans hT
    refine sC (CallsM.ren ((rexpr_c hL hn (by omega) s4 (g4.le (by omega) (by omega))) _ _ q5 _ kx_s4) [0, 1, 2, 9, 10] 11 rfl rfl rfl rfl) ?_
    have kx_s5 : s5.xs = s5.xs := rfl
    have kt_s5 := ((keepT_expr 32).eq q5).trans kt_s4
    have g5 := (sim_expr hL 32 3).gd g4 (by omega) q5
    repeat' (first | refine qgs ?_ | refine eD ?_ ?_ <;> intro)
    exact ex_meet (s5, s5.xs, tl, x) ⟨g5.le (by omega) (by omega), rfl, kt_s5, hT⟩ (sR [(0, 0), (1, 1), (2, 2), (3, 3), (4, 4), (7, 7), (8, 8), (10, 10), (11, 9)])
   ·replace hT := gdRnB hT he
    repeat' (first | refine qgs ?_ | refine eD ?_ ?_ <;> intro)
    exact ex_meet (s, xl, tl, -1) ⟨hs.le (by omega) (by omega), kx_s, kt_s, hT⟩ sS
 clear hT hv his hs kx_s kt_s h10 s xl tl
 rintro ⟨s, xl, tl, x⟩ ⟨hs, kx_s, kt_s, hT⟩
 repeat' (first | refine qgs ?_ | refine eD ?_ ?_ <;> intro)
 rcases q1 : (takeR L t_semi) (s) with ⟨_, s1⟩
 replace hT := (rand q1).symm.trans hT
 refine sC (CallsM.ren ((rtake_c s hs.i hn t_semi) _ _ q1) [0, 1, 2, 9, 10] 11 rfl rfl rfl rfl) ?_
 have kx_s1 := (keep_take q1).1.trans kx_s
 have kt_s1 := (keep_take q1).2.trans kt_s
 obtain rfl : (⟨w, t, d.1, d.2.1, d.2.2, x, 0, false, []⟩ : IT) = v := congrArg Prod.fst hT
 obtain rfl : s1 = st' := congrArg Prod.snd hT
 repeat' (first | refine qgs ?_ | refine eD ?_ ?_ <;> intro)
 subst kx_s1
 subst kt_s1
 exact ⟨rfl, itnLe, rfl, rfl⟩
end
end Go.Proofs.YtoingpafcodojaaGreatDoor

namespace Go.Proofs.YtoingpafcodojaaGreatDoor
open Go.RowKit

section
variable {L : List TokP} {m : Nat}
theorem name_step {s s2 : RSt} {w : List UInt8} (h : nameR L s = (w, s2)) (he : s.err = 0) (he2 : s2.err = 0) : s2.i = s.i + 1 := by
 unfold nameR guardR at h
 rw [if_pos he] at h
 dsimp only at h
 split at h
 ·have := congrArg Prod.snd h
  dsimp only at this
  rw [← this]
 ·have := congrArg Prod.snd h
  dsimp only at this
  rw [← this] at he2
  cases he2
def NumOk (L : List TokP) : Prop := ∀ i, (tk L i).n < 18446744073709551616
theorem number_lt (hq : NumOk L) {s s2 : RSt} {b : Nat} (h : numberR L s = (b, s2)) : b < 18446744073709551616 := by
 unfold numberR guardR at h
 split at h
 ·dsimp only at h
  split at h
  ·have := congrArg Prod.fst h
   dsimp only at this
   rw [← this]; exact hq _
  ·have := congrArg Prod.fst h
   dsimp only at this
   omega
 ·have := congrArg Prod.fst h
  dsimp only at this
  omega
theorem subsR_err {s : RSt} (h : s.err ≠ 0) (n : Nat) (l : List SB) : subsR L n l s = (l, s) := by
 cases n with
 | zero => rfl
 | succ n => exact if_neg h
theorem subs_next {K : List SB → RM IT} {l : List SB} {n : Nat} {s : RSt} {T : IT × RSt} (hT : (atR (namedV L ·) (subsR L n l) (pure l) >>= K) s = T) :
  (namedV L s.i = true ∧ s.err = 0 ∧ (subsR L n l >>= K) s = T) ∨ (¬ (namedV L s.i = true ∧ s.err = 0) ∧ K l s = T) := by
 rcases hv : namedV L s.i with _ | _
 ·exact .inr ⟨fun h => (by cases h.1), atRnB hT hv⟩
 ·have h1 := atRyB hT hv
  by_cases he : s.err = 0
  ·exact .inl ⟨rfl, he, h1⟩
  ·exact .inr ⟨fun h => he h.2, (rand (subsR_err he n l)).symm.trans h1⟩
theorem itPLe {z : Nat} {lt : Bool} {l : List SB} : TLe (.o (gD [ds ⟨#[]⟩, di (-1), di 0, ds ⟨#[]⟩, ds ⟨#[]⟩, di (-1), di z, db lt, .sl 2 (l.map sbD)])) (.o (gD (itD ⟨[], -1, 0, [], [], -1, z, lt, l⟩))) := TLe.rfl
set_option maxHeartbeats 8000000 in
theorem rpack_c (hL : TokOk L) (hn : L.length ≤ 100000) (hq : NumOk L) (st : RSt) (hg : Gd L m 0 900 st) (hp : isV L st.i w_pack = true) : W0 L 46 [] (packR L) (fun x => .o (gD (itD x))) st := fun v st' hT => by
 have kx_st : st.xs = st.xs := rfl
 have kt_st : st.ts = st.ts := rfl
 unfold packR at hT
 have h10 := hg.e
 refine fn_ruleM (C := ⟨Tryz.prog, layF, Tryz.f46.ntmps, ΓL, 5, [], []⟩) layF_ok mixed Tryz.func46 rfl (by kernel_rfl) rfl rfl rfl ?_
 repeat' (first | refine qgs ?_ | refine eD ?_ ?_ <;> intro)
 rcases q1 : (takeR L w_pack) (st) with ⟨_, s1⟩
 replace hT := (rand q1).symm.trans hT
 refine sC (CallsM.ren ((rtake_c st hg.i hn w_pack) _ _ q1) [0, 1, 2, 3, 4] 6 rfl rfl rfl rfl) ?_
 have kx_s1 := (keep_take q1).1.trans kx_st
 have kt_s1 := (keep_take q1).2.trans kt_st
 have g1 := (Sim.take (m := m) hL w_pack 0).gd hg (by omega) q1
 have h11 := g1.e
 have hk := tk_at g1.i
 have hsi1 := g1.i
 replace hT : (match (if (tk L s1.i).k = 0 then integerV (tk L s1.i).t else none) with
  | none => ((⟨[], -1, 0, [], [], -1, 0, false, []⟩ : IT), failR 4 s1)
  | some (z, lt) => (stepR >>= fun _ => takeR L t_lcur >>= fun _ => (fun s => subsR L (L.length - s.i + 1) [] s) >>= fun l => takeR L t_rcur >>= fun _ => pure (⟨[], -1, 0, [], [], -1, z, lt, l⟩ : IT)) s1) = (v, st') := hT
 by_cases hint : (if (tk L s1.i).k = 0 then integerV (tk L s1.i).t else none) = none
 ·rw [hint] at hT
  dsimp only at hT
  obtain rfl := congrArg Prod.fst hT
  obtain rfl := congrArg Prod.snd hT
  have hcz := (rinteger_c (tk L s1.i).t).gL
  by_cases hk0 : (tk L s1.i).k = 0
  ·rw [if_pos hk0] at hint
   rw [hint] at hcz
   have hcz : CallsA Tryz.prog ΓL 68 [c1 (ds (bs (tk L s1.i).t))] (.tup [c1 (di 0), c1 (db false)]) := hcz
   generalize tk L s1.i = u at *
   repeat' (first | refine ex_call hcz ?_ | refine (ex_row s1.i u rfl hk) ?_ | refine qg1 ?_ | refine eD ?_ ?_ <;> intro)
   refine sC (CallsM.ren ((rfail_c (L := L) s1 4 (by omega))) [0, 1, 2, 3, 4] 7 rfl rfl rfl rfl) ?_
   repeat' (first | refine qgs ?_ | refine eD ?_ ?_ <;> intro)
   exact ⟨rfl, itnLe (w := []) (a := []) (b := []), rfl, rfl⟩
  ·obtain ⟨z, lt, hz⟩ : ∃ z lt, rintTV (integerV (tk L s1.i).t) = .tup [c1 (di (z : Nat)), c1 (db lt)] := by
    rcases integerV (tk L s1.i).t with _ | ⟨z, lt⟩
    ·exact ⟨0, false, rfl⟩
    ·exact ⟨z, lt, rfl⟩
   rw [hz] at hcz
   clear hint hz
   generalize tk L s1.i = u at *
   repeat' (first | refine ex_call hcz ?_ | refine (ex_row s1.i u rfl hk) ?_ | refine qg1 ?_ | refine eD ?_ ?_ <;> intro)
   all_goals
    refine sC (CallsM.ren ((rfail_c (L := L) s1 4 (by omega))) [0, 1, 2, 3, 4] 7 rfl rfl rfl rfl) ?_
    repeat' (first | refine qgs ?_ | refine eD ?_ ?_ <;> intro)
    exact ⟨rfl, itnLe (w := []) (a := []) (b := []), rfl, rfl⟩
 ·obtain ⟨⟨z, lt⟩, hint⟩ := Option.ne_none_iff_exists'.1 hint
  rw [hint] at hT
  dsimp only at hT
  have hk0 : (tk L s1.i).k = 0 := by
   by_cases h : (tk L s1.i).k = 0
   ·exact h
   ·rw [if_neg h] at hint; cases hint
  rw [if_pos hk0] at hint
  have he1 : s1.err = 0 := by
   by_cases h : st.err = 0
   ·rw [take_yes h hp] at q1
    have e4 : { st with i := st.i + 1 } = s1 := congrArg Prod.snd q1
    rw [← e4]; exact h
   ·rw [take_err h] at q1
    have e4 : st = s1 := congrArg Prod.snd q1
    subst e4
    have : (tk L st.i).t = w_pack := by
     unfold isV at hp
     rw [Bool.and_eq_true] at hp
     exact of_decide_eq_true hp.2
    rw [this, pack_none] at hint
    cases hint
  have hcz := (rinteger_c (tk L s1.i).t).gL
  rw [hint] at hcz
  have hcz : CallsA Tryz.prog ΓL 68 [c1 (ds (bs (tk L s1.i).t))] (.tup [c1 (di z), c1 (db lt)]) := hcz
  have hz := int_pos hint
  have g1s := (g1.fresh he1 400).step hL he1 (by omega) 400
  clear hint
  generalize tk L s1.i = u at *
  replace hT : (takeR L t_lcur >>= fun _ => (fun s => subsR L (L.length - s.i + 1) [] s) >>= fun l => takeR L t_rcur >>= fun _ => pure (⟨[], -1, 0, [], [], -1, z, lt, l⟩ : IT)) { s1 with i := s1.i + 1 } = (v, st') := hT
  repeat' (first | refine ex_call hcz ?_ | refine aI ((s1.i + 1 : Nat) : Int) ?_ | refine aU ((s1.i + 1 : Nat) : Int) ?_ | refine aB ((s1.i + 1 : Nat) : Int) ?_ | refine (ex_row s1.i u rfl hk) ?_ | refine qg1 ?_ | refine eD ?_ ?_ <;> intro)
  rcases q6 : (takeR L t_lcur) ({ s1 with i := s1.i + 1 }) with ⟨_, s6⟩
  replace hT := (rand q6).symm.trans hT
  refine sC (CallsM.ren ((rtake_c { s1 with i := s1.i + 1 } g1s.i hn t_lcur) _ _ q6) [0, 1, 2, 3, 4] 7 rfl rfl rfl rfl) ?_
  have kx_s6 := (keep_take q6).1.trans rfl
  have kt_s6 := (keep_take q6).2.trans rfl
  have g6 := (Sim.take (m := m) hL t_lcur 2).gd g1s (by omega) q6
  obtain ⟨K, hK⟩ : ∃ K : List SB → RM IT, (fun l : List SB => takeR L t_rcur >>= fun _ => pure (⟨[], -1, 0, [], [], -1, z, lt, l⟩ : IT)) = K := ⟨_, rfl⟩
  replace hT : (subsR L (L.length - s6.i + 1) [] >>= K) s6 = (v, st') := by rw [← hK]; exact hT
  have hi6 := g6.i
  repeat' (first | refine qgs ?_ | refine eD ?_ ?_ <;> intro)
  refine ex_loop (X := RSt × Bool × List SB × Nat) (fun ⟨s, more, l, _⟩ => ⟨[(0, .o P0), (2, .o (.c (.ptr 5 0))), (3, .o (.c (.ptr 6 0))), (6, Tb more)], [(0, Rz L s 1 2 3 4), (5, .obj [.d (ds ⟨#[]⟩), .d (di 0), .d (di 0), .d (ds ⟨#[]⟩), .d (ds ⟨#[]⟩), .d (di 0), .d (di 0), .d (db false), .d dnil]), (6, .obj [.d (ds ⟨#[]⟩), .d (di (-1)), .d (di 0), .d (ds ⟨#[]⟩), .d (ds ⟨#[]⟩), .d (di (-1)), .d (di z), .d (db lt), .row 7]), (7, .row 2 183 (l.map sbD))], 8⟩) (fun y => if y.2.1 = true ∧ y.1.err = 0 then y.2.2.2 else 0)
   (fun ⟨s, more, l, n⟩ => Gd L m 3 910 s ∧ s.xs = st.xs ∧ s.ts = st.ts ∧ (more = true → s.err = 0 → l.length ≤ s.i) ∧ l.length ≤ L.length + 1 ∧ (s.err = 0 → L.length < s.i + n) ∧ ((more = true ∧ s.err = 0 ∧ (subsR L n l >>= K) s = (v, st')) ∨ (¬ (more = true ∧ s.err = 0) ∧ K l s = (v, st')))) (s6, true, [], L.length - s6.i + 1) ⟨g6.le (by omega) (by omega), kx_s6.trans kx_s1, kt_s6.trans kt_s1, fun _ _ => Nat.zero_le _, Nat.zero_le _, fun _ => by omega, ?_⟩ ?_ ?_
  ·by_cases he : s6.err = 0
   ·exact .inl ⟨rfl, he, hT⟩
   ·exact .inr ⟨fun h => he h.2, (rand (subsR_err he _ _)).symm.trans hT⟩
  ·exact SLe.thru (SLe.ownCell 6 8 7 2 183 rfl rfl rfl rfl rfl rfl) sS
  clear hT q1 q6 g1 g1s g6 hsi1 kx_s6 kt_s6 hi6 hcz hk hk0 h11
  rintro ⟨s, more, l, n⟩ ⟨hs, kx_s, kt_s, hl1, hl2, hf, hC⟩
  have hsi := hs.i
  have h10 := hs.e
  rcases hC with ⟨rfl, hse, hT⟩ | ⟨hno, hT⟩
  ·have hl1 := hl1 rfl hse
   have hf := hf hse
   cases n with
   | zero => omega
   | succ n =>
    rw [subsR] at hT
    replace hT := gdRyB hT hse
    have hs0 := hs.fresh hse 400
    replace hT : ((fun s => if namedV L s.i = true then roomR l.length s else ((), s)) >>= fun _ => nameR L >>= fun w => takeR L t_colon >>= fun _ => numberR L >>= fun b => takeR L t_semi >>= fun _ => atR (namedV L ·) (subsR L n (l ++ [⟨w, min b 1048576⟩])) (pure (l ++ [⟨w, min b 1048576⟩])) >>= K) s = (v, st') := hT
    have hnm := rnamed_c s hsi
    rcases hb : namedV L s.i with _ | _ <;> rw [hb] at hnm
    ·replace hT := (rand (roomIf_no hb)).symm.trans hT
     repeat' (first | refine qgs ?_ | refine eD ?_ ?_ <;> intro)
     refine sC (CallsM.ren (hnm) [0, 1, 2, 3, 4] 8 rfl rfl rfl rfl) ?_
     repeat' (first | refine qgs ?_ | refine eD ?_ ?_ <;> intro)
     rcases q2 : (nameR L) (s) with ⟨w, s2⟩
     replace hT := (rand q2).symm.trans hT
     refine sC (CallsM.ren ((rname_c s hs0.i hn) _ _ q2) [0, 1, 2, 3, 4] 8 rfl rfl rfl rfl) ?_
     have kx_s2 := (keep_name q2).1.trans kx_s
     have kt_s2 := (keep_name q2).2.trans kt_s
     have g2 := (Sim.name (m := m) hL 3).gd hs0 (by omega) q2
     repeat' (first | refine qgs ?_ | refine eD ?_ ?_ <;> intro)
     rcases q3 : (takeR L t_colon) (s2) with ⟨_, s3⟩
     replace hT := (rand q3).symm.trans hT
     refine sC (CallsM.ren ((rtake_c s2 g2.i hn t_colon) _ _ q3) [0, 1, 2, 3, 4] 8 rfl rfl rfl rfl) ?_
     have kx_s3 := (keep_take q3).1.trans kx_s2
     have kt_s3 := (keep_take q3).2.trans kt_s2
     have g3 := (Sim.take (m := m) hL t_colon 4).gd g2 (by omega) q3
     repeat' (first | refine qgs ?_ | refine eD ?_ ?_ <;> intro)
     rcases q4 : (numberR L) (s3) with ⟨b, s4⟩
     replace hT := (rand q4).symm.trans hT
     refine sC (CallsM.ren ((rnum_c s3 g3.i hn) _ _ q4) [0, 1, 2, 3, 4] 8 rfl rfl rfl rfl) ?_
     have kx_s4 := (keep_num q4).1.trans kx_s3
     have kt_s4 := (keep_num q4).2.trans kt_s3
     have g4 := (Sim.number (m := m) hL 5).gd g3 (by omega) q4
     repeat' (first | refine qgs ?_ | refine eD ?_ ?_ <;> intro)
     rcases q5 : (takeR L t_semi) (s4) with ⟨_, s5⟩
     replace hT := (rand q5).symm.trans hT
     refine sC (CallsM.ren ((rtake_c s4 g4.i hn t_semi) _ _ q5) [0, 1, 2, 3, 4] 8 rfl rfl rfl rfl) ?_
     have kx_s5 := (keep_take q5).1.trans kx_s4
     have kt_s5 := (keep_take q5).2.trans kt_s4
     have g5 := (Sim.take (m := m) hL t_semi 6).gd g4 (by omega) q5
     have hgrow : s5.err = 0 → s.i + 1 ≤ s5.i := fun h5 => by
      have a5 := (Sim.take (m := m) hL t_semi 6).grow g4 q5 h5
      have a4 := (Sim.number (m := m) hL 5).grow g3 q4 a5.1
      have a3 := (Sim.take (m := m) hL t_colon 4).grow g2 q3 a4.1
      have a2 := (Sim.name (m := m) hL 3).grow hs0 q2 a3.1
      have a1 := name_step q2 a2.1 a3.1
      skip
      omega
     have hnx := rnamed_c s5 g5.i
     obtain ⟨b9, hb9⟩ : ∃ b9, min b 1048576 = b9 := ⟨_, rfl⟩
     have hnum := number_lt hq q4
     have hlc : (l ++ [(⟨w, b9⟩ : SB)]).length = l.length + 1 := by simp
     have hnext := subs_next (K := K) (l := l ++ [(⟨w, b9⟩ : SB)]) (n := n) (s := s5) (T := (v, st')) (by rw [← hb9]; exact hT)
     by_cases hbb : 1048576 < b
     ·obtain rfl : 1048576 = b9 := by rw [← hb9]; omega
      repeat' (first | refine aI ((1048576 : Nat) : Int) ?_ | refine aU ((1048576 : Nat) : Int) ?_ | refine aB ((1048576 : Nat) : Int) ?_ | refine qg1 ?_ | refine eD ?_ ?_ <;> intro)
      refine ex_app (l.length) (1) 1000 (by first | rfl | (simp; done) | (simp; omega)) (by first | rfl | (simp; done) | (simp; omega)) rfl (by omega) ?_
      refine ex_is (List.map sbD (l ++ [⟨w, 1048576⟩])) (by rw [List.map_append]; rfl) ?_
      repeat' (first | refine qgs ?_ | refine eD ?_ ?_ <;> intro)
      refine sC (CallsM.ren (hnx) [0, 1, 2, 3, 4] 10 rfl rfl rfl rfl) ?_
      repeat' (first | refine qgs ?_ | refine eD ?_ ?_ <;> intro)
      exact ex_round (s5, namedV L s5.i, l ++ [⟨w, 1048576⟩], n) ⟨g5.le (by omega) (by omega), kx_s5, kt_s5, fun _ h => by rw [hlc]; have := hgrow h; omega, by rw [hlc]; omega, fun h => by have := hgrow h; omega, hnext⟩ (by show (if namedV L s5.i = true ∧ s5.err = 0 then n else 0) < (if true = true ∧ s.err = 0 then n + 1 else 0); rw [if_pos (show true = true ∧ s.err = 0 from ⟨rfl, hse⟩)]; split <;> omega) (sR [(0, 0), (1, 1), (2, 2), (3, 3), (4, 4), (5, 5), (6, 6), (9, 7)])
     ·obtain rfl : b = b9 := by rw [← hb9]; omega
      repeat' (first | refine aI ((b : Nat) : Int) ?_ | refine aU ((b : Nat) : Int) ?_ | refine aB ((b : Nat) : Int) ?_ | refine qg1 ?_ | refine eD ?_ ?_ <;> intro)
      refine ex_app (l.length) (1) 1000 (by first | rfl | (simp; done) | (simp; omega)) (by first | rfl | (simp; done) | (simp; omega)) rfl (by omega) ?_
      refine ex_is (List.map sbD (l ++ [⟨w, b⟩])) (by rw [List.map_append]; rfl) ?_
      repeat' (first | refine qgs ?_ | refine eD ?_ ?_ <;> intro)
      refine sC (CallsM.ren (hnx) [0, 1, 2, 3, 4] 10 rfl rfl rfl rfl) ?_
      repeat' (first | refine qgs ?_ | refine eD ?_ ?_ <;> intro)
      exact ex_round (s5, namedV L s5.i, l ++ [⟨w, b⟩], n) ⟨g5.le (by omega) (by omega), kx_s5, kt_s5, fun _ h => by rw [hlc]; have := hgrow h; omega, by rw [hlc]; omega, fun h => by have := hgrow h; omega, hnext⟩ (by show (if namedV L s5.i = true ∧ s5.err = 0 then n else 0) < (if true = true ∧ s.err = 0 then n + 1 else 0); rw [if_pos (show true = true ∧ s.err = 0 from ⟨rfl, hse⟩)]; split <;> omega) (sR [(0, 0), (1, 1), (2, 2), (3, 3), (4, 4), (5, 5), (6, 6), (9, 7)])
    ·rcases hr : roomR l.length s with ⟨u1, s1⟩
     replace hT := (rand (roomIf_yes hb hr)).symm.trans hT
     have kr := keep_room hr
     have g9 := ((Sim.room (L := L) (m := m) l.length 3).gd hs0 (by omega) hr)
     have kx_s1 := kr.1.trans kx_s
     have kt_s1 := kr.2.trans kt_s
     have hri := room_i hr
     repeat' (first | refine qgs ?_ | refine eD ?_ ?_ <;> intro)
     refine sC (CallsM.ren (hnm) [0, 1, 2, 3, 4] 8 rfl rfl rfl rfl) ?_
     repeat' (first | refine ex_is l.length (by simp) ?_ | refine qg1 ?_ | refine eD ?_ ?_ <;> intro)
     refine sC (CallsM.ren (((rroom_c s l.length (by omega)) _ _ hr)) [0, 1, 2, 3, 4] 8 rfl rfl rfl rfl) ?_
     repeat' (first | refine qgs ?_ | refine eD ?_ ?_ <;> intro)
     rcases q2 : (nameR L) (s1) with ⟨w, s2⟩
     replace hT := (rand q2).symm.trans hT
     refine sC (CallsM.ren ((rname_c s1 g9.i hn) _ _ q2) [0, 1, 2, 3, 4] 8 rfl rfl rfl rfl) ?_
     have kx_s2 := (keep_name q2).1.trans kx_s1
     have kt_s2 := (keep_name q2).2.trans kt_s1
     have g2 := (Sim.name (m := m) hL 3).gd g9 (by omega) q2
     repeat' (first | refine qgs ?_ | refine eD ?_ ?_ <;> intro)
     rcases q3 : (takeR L t_colon) (s2) with ⟨_, s3⟩
     replace hT := (rand q3).symm.trans hT
     refine sC (CallsM.ren ((rtake_c s2 g2.i hn t_colon) _ _ q3) [0, 1, 2, 3, 4] 8 rfl rfl rfl rfl) ?_
     have kx_s3 := (keep_take q3).1.trans kx_s2
     have kt_s3 := (keep_take q3).2.trans kt_s2
     have g3 := (Sim.take (m := m) hL t_colon 4).gd g2 (by omega) q3
     repeat' (first | refine qgs ?_ | refine eD ?_ ?_ <;> intro)
     rcases q4 : (numberR L) (s3) with ⟨b, s4⟩
     replace hT := (rand q4).symm.trans hT
     refine sC (CallsM.ren ((rnum_c s3 g3.i hn) _ _ q4) [0, 1, 2, 3, 4] 8 rfl rfl rfl rfl) ?_
     have kx_s4 := (keep_num q4).1.trans kx_s3
     have kt_s4 := (keep_num q4).2.trans kt_s3
     have g4 := (Sim.number (m := m) hL 5).gd g3 (by omega) q4
     repeat' (first | refine qgs ?_ | refine eD ?_ ?_ <;> intro)
     rcases q5 : (takeR L t_semi) (s4) with ⟨_, s5⟩
     replace hT := (rand q5).symm.trans hT
     refine sC (CallsM.ren ((rtake_c s4 g4.i hn t_semi) _ _ q5) [0, 1, 2, 3, 4] 8 rfl rfl rfl rfl) ?_
     have kx_s5 := (keep_take q5).1.trans kx_s4
     have kt_s5 := (keep_take q5).2.trans kt_s4
     have g5 := (Sim.take (m := m) hL t_semi 6).gd g4 (by omega) q5
     have hgrow : s5.err = 0 → s.i + 1 ≤ s5.i := fun h5 => by
      have a5 := (Sim.take (m := m) hL t_semi 6).grow g4 q5 h5
      have a4 := (Sim.number (m := m) hL 5).grow g3 q4 a5.1
      have a3 := (Sim.take (m := m) hL t_colon 4).grow g2 q3 a4.1
      have a2 := (Sim.name (m := m) hL 3).grow g9 q2 a3.1
      have a1 := name_step q2 a2.1 a3.1
      have := hri
      omega
     have hnx := rnamed_c s5 g5.i
     obtain ⟨b9, hb9⟩ : ∃ b9, min b 1048576 = b9 := ⟨_, rfl⟩
     have hnum := number_lt hq q4
     have hlc : (l ++ [(⟨w, b9⟩ : SB)]).length = l.length + 1 := by simp
     have hnext := subs_next (K := K) (l := l ++ [(⟨w, b9⟩ : SB)]) (n := n) (s := s5) (T := (v, st')) (by rw [← hb9]; exact hT)
     by_cases hbb : 1048576 < b
     ·obtain rfl : 1048576 = b9 := by rw [← hb9]; omega
      repeat' (first | refine aI ((1048576 : Nat) : Int) ?_ | refine aU ((1048576 : Nat) : Int) ?_ | refine aB ((1048576 : Nat) : Int) ?_ | refine qg1 ?_ | refine eD ?_ ?_ <;> intro)
      refine ex_app (l.length) (1) 1000 (by first | rfl | (simp; done) | (simp; omega)) (by first | rfl | (simp; done) | (simp; omega)) rfl (by omega) ?_
      refine ex_is (List.map sbD (l ++ [⟨w, 1048576⟩])) (by rw [List.map_append]; rfl) ?_
      repeat' (first | refine qgs ?_ | refine eD ?_ ?_ <;> intro)
      refine sC (CallsM.ren (hnx) [0, 1, 2, 3, 4] 10 rfl rfl rfl rfl) ?_
      repeat' (first | refine qgs ?_ | refine eD ?_ ?_ <;> intro)
      exact ex_round (s5, namedV L s5.i, l ++ [⟨w, 1048576⟩], n) ⟨g5.le (by omega) (by omega), kx_s5, kt_s5, fun _ h => by rw [hlc]; have := hgrow h; omega, by rw [hlc]; omega, fun h => by have := hgrow h; omega, hnext⟩ (by show (if namedV L s5.i = true ∧ s5.err = 0 then n else 0) < (if true = true ∧ s.err = 0 then n + 1 else 0); rw [if_pos (show true = true ∧ s.err = 0 from ⟨rfl, hse⟩)]; split <;> omega) (sR [(0, 0), (1, 1), (2, 2), (3, 3), (4, 4), (5, 5), (6, 6), (9, 7)])
     ·obtain rfl : b = b9 := by rw [← hb9]; omega
      repeat' (first | refine aI ((b : Nat) : Int) ?_ | refine aU ((b : Nat) : Int) ?_ | refine aB ((b : Nat) : Int) ?_ | refine qg1 ?_ | refine eD ?_ ?_ <;> intro)
      refine ex_app (l.length) (1) 1000 (by first | rfl | (simp; done) | (simp; omega)) (by first | rfl | (simp; done) | (simp; omega)) rfl (by omega) ?_
      refine ex_is (List.map sbD (l ++ [⟨w, b⟩])) (by rw [List.map_append]; rfl) ?_
      repeat' (first | refine qgs ?_ | refine eD ?_ ?_ <;> intro)
      refine sC (CallsM.ren (hnx) [0, 1, 2, 3, 4] 10 rfl rfl rfl rfl) ?_
      repeat' (first | refine qgs ?_ | refine eD ?_ ?_ <;> intro)
      exact ex_round (s5, namedV L s5.i, l ++ [⟨w, b⟩], n) ⟨g5.le (by omega) (by omega), kx_s5, kt_s5, fun _ h => by rw [hlc]; have := hgrow h; omega, by rw [hlc]; omega, fun h => by have := hgrow h; omega, hnext⟩ (by show (if namedV L s5.i = true ∧ s5.err = 0 then n else 0) < (if true = true ∧ s.err = 0 then n + 1 else 0); rw [if_pos (show true = true ∧ s.err = 0 from ⟨rfl, hse⟩)]; split <;> omega) (sR [(0, 0), (1, 1), (2, 2), (3, 3), (4, 4), (5, 5), (6, 6), (9, 7)])
  ·rw [← hK] at hT
   rcases q4 : takeR L t_rcur s with ⟨u4, s4⟩
   replace hT := (rand q4).symm.trans hT
   obtain rfl : (⟨[], -1, 0, [], [], -1, z, lt, l⟩ : IT) = v := congrArg Prod.fst hT
   obtain rfl : s4 = st' := congrArg Prod.snd hT
   have hcon := (rtake_c s hsi hn t_rcur) _ _ q4
   cases more
   ·repeat' (first | refine qgs ?_ | refine eD ?_ ?_ <;> intro)
    refine sC (CallsM.ren (hcon) [0, 1, 2, 3, 4] 8 rfl rfl rfl rfl) ?_
    repeat' (first | refine qgs ?_ | refine eD ?_ ?_ <;> intro)
    exact ⟨rfl, itPLe, rfl, rfl⟩
   ·have hse : s.err ≠ 0 := fun h => hno ⟨rfl, h⟩
    repeat' (first | refine qgs ?_ | refine eD ?_ ?_ <;> intro)
    refine sC (CallsM.ren (hcon) [0, 1, 2, 3, 4] 8 rfl rfl rfl rfl) ?_
    repeat' (first | refine qgs ?_ | refine eD ?_ ?_ <;> intro)
    exact ⟨rfl, itPLe, rfl, rfl⟩
end
end Go.Proofs.YtoingpafcodojaaGreatDoor
