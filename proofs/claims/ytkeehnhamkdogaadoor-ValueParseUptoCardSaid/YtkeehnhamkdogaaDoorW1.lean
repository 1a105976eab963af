/- The law's fixed example. No condition. -/
import Derived.Test.YtkeehnhamkdogaaDoorQ7
import Derived.Test.YtkeehnhamkdogaaDoorV3
import Derived.Test.YtkeehnhamkdogaaDoorDle
namespace Go.Proofs.YtkeehnhamkdogaaDoor
set_option linter.unusedVariables false
set_option linter.unusedSimpArgs false
open Go.RowKit
set_option maxRecDepth 100000

def wakeV : PV := .mk 4 0 ⟨#[]⟩ [.mk 1 7 ⟨#[]⟩ [], .mk 2 0 ⟨#[97, 98]⟩ [], .mk 3 0 ⟨#[]⟩ []]
abbrev wakeS : ByteArray := ⟨#[123, 55, 44, 32, 120, 34, 54, 49, 54, 50, 34, 44, 32, 91, 93, 125]⟩
theorem wake_parse : parseV wakeS = (wakeV, 0, 0) := by kernel_rfl
theorem dec7 : Lib.decDigits 7 = [55] := by
  rw [Lib.decDigits, dif_pos (by omega)]
  rfl
theorem wake_good : goodP wakeV = true := by kernel_rfl
theorem wake_count : countP wakeV 1200 = 4 := by kernel_rfl
theorem wake_tx : txP wakeV = wakeS.data.toList := by
  have h7 : txP (.mk 1 7 ⟨#[]⟩ []) = [55] := by rw [txP, if_neg (by decide), if_pos rfl, dec7]
  unfold wakeV
  rw [txP, if_neg (by decide), if_neg (by decide), if_neg (by decide), if_neg (by decide), txL, h7]
  rfl
theorem wake_text : (⟨(txV wakeV).toArray⟩ : ByteArray) = wakeS := by
  unfold txV
  rw [wake_good, if_pos rfl, wake_tx]
theorem wakes_c : CallsA Tryd.prog ΓS 11 [] (Tb true) := by
  have hnum : wakeV.num ≤ 4611686018427387904 := by decide
  have hF : AllN FmtOk wakeV := by
    have h7 : FmtOk 7 := fmt_c 7 (by omega)
    simp [wakeV, AllN, AllNL, h7]
  have ht := Text_c wakeV hnum hF (by rw [wake_tx]; decide)
  rw [wake_text] at ht
  have hp := Parse_c wakeS (by decide)
  rw [wake_parse] at hp
  have he := Equal_c wakeV wakeV hnum hnum
  rw [wake_good, sameP_rfl] at he
  have hc := Count_c wakeV hnum
  rw [wake_count] at hc
  refine fn_rule (C := ⟨Tryd.prog, layF, Tryd.f11.ntmps, ΓS, 0, [], []⟩) layF_ok mixed Tryd.func11 rfl (by kernel_rfl) rfl rfl rfl ?_
  refine ex_call ((I_c 7).of0) ?_
  refine ex_call ((B_c ⟨#[97, 98]⟩).of0) ?_
  refine ex_call (((L_c []).of0.arg1 DLe.nil)) ?_
  refine ex_call ((R_c [PV.mk 1 7 ⟨#[]⟩ [], PV.mk 2 0 ⟨#[97, 98]⟩ [], PV.mk 3 0 ⟨#[]⟩ []]).of0) ?_
  refine ex_call (hp) ?_
  refine ex_call (ht) ?_
  refine ex_true rfl ?_
  refine ex_true rfl ?_
  refine ex_true rfl ?_
  refine ex_call (he.of0) ?_
  refine ex_call (hc.of0) ?_
  refine ex_true rfl ?_
  exact TLe.rfl
theorem numL_app : ∀ (l m : List PV), numL (l ++ m) = numL l + numL m
  | [], m => by simp [numL]
  | t :: ts, m => by rw [List.cons_append, numL, numL, numL_app ts m]; omega
def FN (s : ByteArray) (f : Nat → R PV) : Prop := ∀ a v b, a ≤ s.size → f a = .ok v b → v.num + a ≤ b
theorem loopV_num {s : ByteArray} {f : Nat → R PV} (hf : FOk s f) (hn : FN s f) {e : UInt8} {k : Int} {v : PV} : ∀ {n a b : Nat} {acc : List PV}, a ≤ s.size → loopV s f e k n a acc = .ok v b → v.num + a ≤ 1 + numL acc + b
  | 0, a, b, acc, _, h => by cases h
  | n + 1, a, b, acc, ha, h => by
    rw [loopV] at h
    split at h
    · cases h
    · rename_i x b' h1
      have h2 := hn _ _ _ ha h1
      have h3 := hf _ _ _ ha h1
      have h4 := passV_ge s b'
      split at h
      · cases h
        rw [PV.num, numL_app, numL, numL]; omega
      · split at h
        · cases h
        · rename_i u c h5
          obtain ⟨rfl, _, h6⟩ := must_ok h5
          have := loopV_num hf hn (by omega) h
          rw [numL_app, numL, numL] at this
          omega
theorem listV_num {s : ByteArray} {f : Nat → R PV} (hf : FOk s f) (hn : FN s f) {k : Int} {v : PV} {a b : Nat} (ha : a ≤ s.size) (h : listV s f k a = .ok v b) : v.num + a ≤ 1 + b := by
  unfold listV at h
  have := passV_ge s a
  split at h
  · cases h; rw [PV.num, numL]; omega
  · have := loopV_num hf hn (passV_le s ha) h
    rw [numL] at this; omega
theorem hexV_num {s : ByteArray} {v : PV} : ∀ {n a b : Nat} {acc : List UInt8}, hexV s n a acc = .ok v b → v.num = 1
  | 0, a, b, acc, h => by cases h
  | n + 1, a, b, acc, h => by
    rw [hexV] at h
    split at h
    · cases h; rw [PV.num, numL]
    · split at h
      · cases h
      · split at h
        · cases h
        · exact hexV_num h
theorem atV_num {s : ByteArray} {f : Nat → R PV} {d : Bool} (hf : FOk s f) (hn : FN s f) {v : PV} {a b : Nat} (ha : a ≤ s.size) (h : atV s a d f = .ok v b) : v.num + a ≤ b := by
  have ho := (atV_ok hf ha h).1
  unfold atV at h
  split at h
  · rename_i hc
    have := at_lt hc
    split at h
    · cases h
    · have := listV_num hf hn (by omega) h; omega
  · split at h
    · rename_i hc
      have := at_lt hc
      split at h
      · cases h
      · have := listV_num hf hn (by omega) h; omega
    · have key : v.num = 1 := by
        split at h
        · split at h
          · cases h
          · unfold numV at h
            split at h
            · cases h
            · split at h
              · cases h; rw [PV.num, numL]
              · cases h
        · split at h
          · split at h
            · cases h
            · cases h; rw [PV.num, numL]
          · split at h
            · split at h
              · cases h
              · unfold bytV at h
                split at h
                · cases h
                · exact hexV_num h
            · cases h
      omega
theorem valV_num (s : ByteArray) : ∀ n, FN s (valV s n)
  | 0 => fun a v b ha h => by
    rw [valV] at h
    have h1 := passV_ge s a
    have := atV_num (fun _ _ _ _ h => by cases h) (fun _ _ _ _ h => by cases h) (passV_le s ha) h
    omega
  | n + 1 => fun a v b ha h => by
    rw [valV] at h
    have h1 := passV_ge s a
    have := atV_num (valV_ok s n) (valV_num s n) (passV_le s ha) h
    omega
theorem parseV_num (s : ByteArray) : (parseV s).1.num ≤ s.size + 1 := by
  unfold parseV
  split
  · show PV.num _ ≤ _; rw [PV.num, numL]; omega
  · rename_i v a h
    split
    · show PV.num _ ≤ _; rw [PV.num, numL]; omega
    · have h1 := valV_num s 1200 _ _ _ (by omega) h
      have h2 := (valV_ok s 1200 _ _ _ (by omega) h).2
      show v.num ≤ _
      omega
theorem valueParse_c (s : ByteArray) (hs : s.size ≤ 1048576) : CallsA Tryd.prog ΓS 4 [c1 (ds s)] (Tb true) := by
  have h1 := Parse_c s (by omega)
  have h2 := rParse_c s (by omega)
  have h3 := lsame_c (parseV s).1 (parseV s).1 (by have := parseV_num s; omega)
  rw [sameP_rfl] at h3
  refine fn_rule (C := ⟨Tryd.prog, layF, Tryd.f4.ntmps, ΓS, 0, [], []⟩) layF_ok mixed Tryd.func4 rfl (by kernel_rfl) rfl rfl rfl ?_
  refine ex_call (h1) ?_
  refine ex_call (h2) ?_
  refine ex_call (wakes_c) ?_
  refine ex_call (h3.of0) ?_
  refine ex_true rfl ?_
  refine ex_true rfl ?_
  exact TLe.rfl
end Go.Proofs.YtkeehnhamkdogaaDoor
