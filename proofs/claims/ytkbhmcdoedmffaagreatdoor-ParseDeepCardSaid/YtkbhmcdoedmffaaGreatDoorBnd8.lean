/- ParseDeep: so many types, parentheses, or signs within one another may be, one more mayn't; so many fields, and structs. Condition: the listed package variables hold what the program's text lays. -/
import Derived.Lib.LaidTab
import Derived.Test.YtkbhmcdoedmffaaGreatDoorRows
import Derived.Lay
import Derived.MakeChecks
import Derived.Test.YtkbhmcdoedmffaaGreatDoorCards
import Derived.Test.YtkbhmcdoedmffaaGreatDoorTie
import Derived.SevenTiedAt
import Derived.Deep.DeepHandedRow
import Derived.Test.YtkbhmcdoedmffaaGreatDoorBnd1
import Derived.Test.YtkbhmcdoedmffaaGreatDoorBnd2
import Derived.Test.YtkbhmcdoedmffaaGreatDoorBnd3
import Derived.Test.YtkbhmcdoedmffaaGreatDoorBnd4
import Derived.Test.YtkbhmcdoedmffaaGreatDoorBnd5
import Derived.Test.YtkbhmcdoedmffaaGreatDoorBnd6
import Derived.Test.YtkbhmcdoedmffaaGreatDoorBnd7
namespace Go.Proofs.YtkbhmcdoedmffaaGreatDoor
set_option linter.unusedVariables false
set_option linter.unusedSimpArgs false
open Go.RowKit
set_option maxRecDepth 100000

theorem rep_any (l : List UInt8) : ∀ k, Lib.repeatL l k = rep k l
  | 0 => rfl
  | k + 1 => by rw [Lib.repeatL, rep_any l k]; unfold rep; rw [List.replicate_succ, List.flatten_cons]
theorem rep_len (l : List UInt8) : ∀ k, (rep k l).length = l.length * k
  | 0 => rfl
  | k + 1 => by
    have ih := rep_len l k
    unfold rep at ih ⊢
    rw [List.replicate_succ, List.flatten_cons, List.length_append, ih, Nat.mul_succ]
    omega
theorem rep_size (k : Nat) (l : List UInt8) : (bs (rep k l)).size = l.length * k := by rw [bs_size, rep_len]
theorem rept_c (l : List UInt8) (k : Nat) (hk : k < 70) (hl : l.length ≤ 20) : CallsA Tryz.prog ΓL 22 [c1 (ds (bs l)), c1 (di k)] (.o (c1 (ds (bs (rep k l))))) := by
  have h := repeat_c ΓL (bs l) k (by omega) (by rw [bs_size]; have := Nat.mul_le_mul hl (Nat.le_of_lt hk); omega)
  rw [show (bs l).data.toList = l from rfl, rep_any] at h
  exact h
def SD (k : Nat) : List ByteArray := [⟨#[115, 116, 114, 117, 99, 116, 32, 83, 32, 123, 32, 97, 58, 32]⟩ ++ bs (rep k [114, 101, 115, 116, 32]) ++ ⟨#[117, 56, 59, 32, 125]⟩, ⟨#[115, 116, 114, 117, 99, 116, 32, 83, 32, 123, 32, 97, 58, 32, 98, 121, 116, 101, 115, 91]⟩ ++ bs (rep k [40]) ++ ⟨#[49]⟩ ++ bs (rep k [41]) ++ ⟨#[93, 59, 32, 125]⟩, ⟨#[115, 116, 114, 117, 99, 116, 32, 83, 32, 123, 32, 97, 58, 32, 98, 121, 116, 101, 115, 91]⟩ ++ bs (rep k [33]) ++ ⟨#[49, 93, 59, 32, 125]⟩, ⟨#[115, 116, 114, 117, 99, 116, 32, 83, 32, 123, 32]⟩ ++ bs (rep k [97, 58, 32, 117, 56, 59, 32]) ++ ⟨#[125]⟩, bs (rep k [115, 116, 114, 117, 99, 116, 32, 83, 32, 123, 32, 125, 32])]
theorem sd_eq (k : Nat) : SD k = (dT k).map bs := by
  unfold SD dT dT0 dT1 dT2 dT3 dT4
  simp only [List.map_cons, List.map_nil, ← bs_app]
theorem dT_len : ((List.range 70).all fun k => (dT k).all fun t => decide (t.length ≤ 1000)) = true := by decide +kernel
def deepE (k q : Nat) : Nat := if q < 3 then (if 32 < k then 8 else 0) else (if 64 < k then 10 else 0)
theorem deep_at {k q : Nat} {t : List UInt8} (hk : k < 70) (h : (dT k)[q]? = some t) : errOf (fileS t) = deepE k q := by
  have hr := List.mem_range.2 hk
  have h1 := of_decide_eq_true (List.all_eq_true.1 (List.all_eq_true.1 dT_len k hr) t (List.mem_of_getElem? h))
  have hV : lexV t = lexF t 1 1 := by unfold lexV; rw [if_pos (by omega)]
  unfold fileS
  rw [hV]
  rcases q with _ | _ | _ | _ | _ | q
  · cases h; exact Nat.eq_of_beq_eq_true (List.all_eq_true.1 deep_ok0 k hr)
  · cases h; exact Nat.eq_of_beq_eq_true (List.all_eq_true.1 deep_ok1 k hr)
  · cases h; exact Nat.eq_of_beq_eq_true (List.all_eq_true.1 deep_ok2 k hr)
  · cases h; exact deep_ok3 hk
  · cases h; exact deep_ok4 hk
  · simp [dT] at h
theorem file_pos {s : List UInt8} {l c : Nat} (h : fileS s = .err l c 0) : False := by
  unfold fileS fileV at h
  rcases hl : lexV s with L | ⟨l', c', e'⟩ <;> rw [hl] at h <;> dsimp only at h
  · obtain ⟨hL, hn⟩ := lexV_ok hl
    have := up_whole hL (L.length + 1) [] [] ⟨0, [], []⟩ 0 ⟨hL.1, by simp, by simp⟩
    split at h
    · cases h
    · rename_i i e0 hw
      rw [hw] at this
      cases h
      exact absurd this.2.2.1 (by omega)
  · cases h
    have := lexV_err hl
    omega
set_option maxHeartbeats 4000000 in
theorem parseDeep_c (n : Int) (hn : 0 ≤ n ∧ n ≤ 255) : CallsA Tryz.prog ΓL 7 [c1 (.v (.int .u8 n))] (Tb true) := by
  obtain ⟨m, rfl⟩ : ∃ m : Nat, n = m := ⟨n.toNat, by omega⟩
  obtain ⟨k, hk⟩ : ∃ k, m % 70 = k := ⟨_, rfl⟩
  have hk70 : k < 70 := hk ▸ Nat.mod_lt _ (by decide)
  have r1 : ((m : Nat) : Int).tmod 70 = ((k : Nat) : Int) := by rw [Int.tmod_eq_emod_of_nonneg (by omega), ← hk]; rfl
  have p0 := rept_c [114, 101, 115, 116, 32] k (by omega) (by decide)
  have p1 := rept_c [40] k (by omega) (by decide)
  have p2 := rept_c [41] k (by omega) (by decide)
  have p3 := rept_c [33] k (by omega) (by decide)
  have p4 := rept_c [97, 58, 32, 117, 56, 59, 32] k (by omega) (by decide)
  have p5 := rept_c [115, 116, 114, 117, 99, 116, 32, 83, 32, 123, 32, 125, 32] k (by omega) (by decide)
  have y0 : (bs (rep k [114, 101, 115, 116, 32])).size = 5 * k := rep_size k [114, 101, 115, 116, 32]
  have y1 : (bs (rep k [40])).size = 1 * k := rep_size k [40]
  have y2 : (bs (rep k [41])).size = 1 * k := rep_size k [41]
  have y3 : (bs (rep k [33])).size = 1 * k := rep_size k [33]
  have y4 : (bs (rep k [97, 58, 32, 117, 56, 59, 32])).size = 7 * k := rep_size k [97, 58, 32, 117, 56, 59, 32]
  have y5 : (bs (rep k [115, 116, 114, 117, 99, 116, 32, 83, 32, 123, 32, 125, 32])).size = 13 * k := rep_size k [115, 116, 114, 117, 99, 116, 32, 83, 32, 123, 32, 125, 32]
  have z0 : (⟨#[115, 116, 114, 117, 99, 116, 32, 83, 32, 123, 32, 97, 58, 32]⟩ : ByteArray).size = 14 := rfl
  have z1 : (⟨#[115, 116, 114, 117, 99, 116, 32, 83, 32, 123, 32, 97, 58, 32]⟩ ++ bs (rep k [114, 101, 115, 116, 32]) : ByteArray).size = 14 + 5 * k := by rw [ByteArray.size_append, z0, y0]
  have z2 : (⟨#[117, 56, 59, 32, 125]⟩ : ByteArray).size = 5 := rfl
  have z3 : (⟨#[115, 116, 114, 117, 99, 116, 32, 83, 32, 123, 32, 97, 58, 32]⟩ ++ bs (rep k [114, 101, 115, 116, 32]) ++ ⟨#[117, 56, 59, 32, 125]⟩ : ByteArray).size = 14 + 5 * k + 5 := by rw [ByteArray.size_append, z1, z2]
  have z4 : (⟨#[115, 116, 114, 117, 99, 116, 32, 83, 32, 123, 32, 97, 58, 32, 98, 121, 116, 101, 115, 91]⟩ : ByteArray).size = 20 := rfl
  have z5 : (⟨#[115, 116, 114, 117, 99, 116, 32, 83, 32, 123, 32, 97, 58, 32, 98, 121, 116, 101, 115, 91]⟩ ++ bs (rep k [40]) : ByteArray).size = 20 + 1 * k := by rw [ByteArray.size_append, z4, y1]
  have z6 : (⟨#[49]⟩ : ByteArray).size = 1 := rfl
  have z7 : (⟨#[115, 116, 114, 117, 99, 116, 32, 83, 32, 123, 32, 97, 58, 32, 98, 121, 116, 101, 115, 91]⟩ ++ bs (rep k [40]) ++ ⟨#[49]⟩ : ByteArray).size = 20 + 1 * k + 1 := by rw [ByteArray.size_append, z5, z6]
  have z8 : (⟨#[115, 116, 114, 117, 99, 116, 32, 83, 32, 123, 32, 97, 58, 32, 98, 121, 116, 101, 115, 91]⟩ ++ bs (rep k [40]) ++ ⟨#[49]⟩ ++ bs (rep k [41]) : ByteArray).size = 20 + 1 * k + 1 + 1 * k := by rw [ByteArray.size_append, z7, y2]
  have z9 : (⟨#[93, 59, 32, 125]⟩ : ByteArray).size = 4 := rfl
  have z10 : (⟨#[115, 116, 114, 117, 99, 116, 32, 83, 32, 123, 32, 97, 58, 32, 98, 121, 116, 101, 115, 91]⟩ ++ bs (rep k [40]) ++ ⟨#[49]⟩ ++ bs (rep k [41]) ++ ⟨#[93, 59, 32, 125]⟩ : ByteArray).size = 20 + 1 * k + 1 + 1 * k + 4 := by rw [ByteArray.size_append, z8, z9]
  have z11 : (⟨#[115, 116, 114, 117, 99, 116, 32, 83, 32, 123, 32, 97, 58, 32, 98, 121, 116, 101, 115, 91]⟩ ++ bs (rep k [33]) : ByteArray).size = 20 + 1 * k := by rw [ByteArray.size_append, z4, y3]
  have z12 : (⟨#[49, 93, 59, 32, 125]⟩ : ByteArray).size = 5 := rfl
  have z13 : (⟨#[115, 116, 114, 117, 99, 116, 32, 83, 32, 123, 32, 97, 58, 32, 98, 121, 116, 101, 115, 91]⟩ ++ bs (rep k [33]) ++ ⟨#[49, 93, 59, 32, 125]⟩ : ByteArray).size = 20 + 1 * k + 5 := by rw [ByteArray.size_append, z11, z12]
  have z14 : (⟨#[115, 116, 114, 117, 99, 116, 32, 83, 32, 123, 32]⟩ : ByteArray).size = 11 := rfl
  have z15 : (⟨#[115, 116, 114, 117, 99, 116, 32, 83, 32, 123, 32]⟩ ++ bs (rep k [97, 58, 32, 117, 56, 59, 32]) : ByteArray).size = 11 + 7 * k := by rw [ByteArray.size_append, z14, y4]
  have z16 : (⟨#[125]⟩ : ByteArray).size = 1 := rfl
  have z17 : (⟨#[115, 116, 114, 117, 99, 116, 32, 83, 32, 123, 32]⟩ ++ bs (rep k [97, 58, 32, 117, 56, 59, 32]) ++ ⟨#[125]⟩ : ByteArray).size = 11 + 7 * k + 1 := by rw [ByteArray.size_append, z15, z16]
  have hSl : (SD k).length = 5 := rfl
  refine fn_rule (C := ⟨Tryz.prog, layF, Tryz.f7.ntmps, ΓL, 0, [], []⟩) layF_ok mixed Tryz.func7 rfl (by kernel_rfl) rfl rfl rfl ?_
  repeat' (first | refine ex_call p5 ?_ | refine ex_call p4 ?_ | refine ex_call p3 ?_ | refine ex_call p2 ?_ | refine ex_call p1 ?_ | refine ex_call p0 ?_ | refine ex_i64 ((k : Nat) : Int) (by omega) (by omega) (by omega) ?_ | refine ex_u64 ((k : Nat) : Int) (by omega) (by omega) (by omega) ?_ | refine ex_u8 ((k : Nat) : Int) (by omega) (by omega) (by omega) ?_ | refine (ex_is (5 : Nat) rfl) ?_ | refine (ex_is ((k : Nat) : Int) r1) ?_ | refine ex_true (by first | decide | omega | assumption | (with_reducible exact rfl)) ?_ | refine ex_false (by first | decide | omega | assumption | exact (fun h => h rfl)) ?_ | refine ex_dec (fun _ => ?_) (fun _ => ?_) | refine ex_u8 _ rfl (by omega) (by omega) ?_ | refine ex_i64 _ rfl (by omega) (by omega) ?_ | refine ex_u64 _ rfl (by omega) (by omega) ?_ | refine and_mk (by first | omega | (with_reducible rfl) | (show drawOk _ _ _ = true; kernel_rfl)) ?_ | refine and_mk ⟨_, rfl⟩ ?_ | refine ex_is _ (List.length_map _) ?_ | refine ex_is _ List.length_nil ?_ | fail "no step")
  refine ex_loop (X := Nat) (fun q => ⟨[(3, Ti k), (45, .o (c1 (.sl 1 ((SD k).map fun s => [ds s])))), (46, Ti 5), (47, Ti q)], [], 1⟩) (fun q => 5 - q) (fun q => q ≤ 5) 0 (Nat.zero_le _) ?_ ?_
  · exact SLe.via (SLe.still 0 1 9 ((SD k).map fun s => [ds s]) rfl) (SLe.of ⟨⟨rfl, rfl, rfl, rfl, trivial⟩, trivial⟩)
  intro q hq
  clear p0 p1 p2 p3 p4 p5 y0 y1 y2 y3 y4 y5 z0 z1 z2 z3 z4 z5 z6 z7 z8 z9 z10 z11 z12 z13 z14 z15 z16 z17
  refine ex_dec (fun h => ?_) (fun h => ?_)
  · have hq5 : q < 5 := by omega
    obtain ⟨t, ht⟩ : ∃ t, (dT k)[q]? = some t := ⟨_, List.getElem?_eq_getElem (by show q < 5; omega)⟩
    have hx : (SD k)[q]? = some (bs t) := by rw [sd_eq, List.getElem?_map, ht]; rfl
    have hp := Parse_c t
    have he := deep_at hk70 ht
    clear ht
    rcases hf : fileS t with ⟨cs, rs, xs, ts⟩ | ⟨l, c, e⟩ <;> rw [hf] at hp he
    · have hp : CallsA Tryz.prog ΓL 8 [c1 (ds (bs t))] (.tup [.c (.eptr (fileD cs rs xs ts)), gD [di 0, di 0], c1 (di 0)]) := hp
      have he : 0 = deepE k q := he
      unfold deepE at he
      by_cases h3 : q < 3
      · rw [if_pos h3] at he
        have hk32 : ¬ 32 < k := fun h => by rw [if_pos h] at he; cases he
        clear he
        repeat' (first | refine ex_call hp ?_ | refine ex_i64 ((q + 1 : Nat) : Int) (by omega) (by omega) (by omega) ?_ | refine ex_u64 ((q + 1 : Nat) : Int) (by omega) (by omega) (by omega) ?_ | refine ex_u8 ((q + 1 : Nat) : Int) (by omega) (by omega) (by omega) ?_ | refine (ex_row q (bs t) rfl hx) ?_ | refine ex_true (by first | decide | omega | assumption | (with_reducible exact rfl)) ?_ | refine ex_false (by first | decide | omega | assumption | exact (fun h => h rfl)) ?_ | refine ex_dec (fun _ => ?_) (fun _ => ?_) | refine ex_u8 _ rfl (by omega) (by omega) ?_ | refine ex_i64 _ rfl (by omega) (by omega) ?_ | refine ex_u64 _ rfl (by omega) (by omega) ?_ | refine and_mk (by first | omega | (with_reducible rfl) | (show drawOk _ _ _ = true; kernel_rfl)) ?_ | refine and_mk ⟨_, rfl⟩ ?_ | refine ex_is _ (List.length_map _) ?_ | refine ex_is _ List.length_nil ?_ | fail "no step")
        exact ex_round (q + 1) (by show q + 1 ≤ 5; omega) (by show 5 - (q + 1) < 5 - q; omega) (SLe.of ⟨⟨rfl, rfl, rfl, rfl, trivial⟩, trivial⟩)
      · rw [if_neg h3] at he
        have hk32 : ¬ 64 < k := fun h => by rw [if_pos h] at he; cases he
        clear he
        repeat' (first | refine ex_call hp ?_ | refine ex_i64 ((q + 1 : Nat) : Int) (by omega) (by omega) (by omega) ?_ | refine ex_u64 ((q + 1 : Nat) : Int) (by omega) (by omega) (by omega) ?_ | refine ex_u8 ((q + 1 : Nat) : Int) (by omega) (by omega) (by omega) ?_ | refine (ex_row q (bs t) rfl hx) ?_ | refine ex_true (by first | decide | omega | assumption | (with_reducible exact rfl)) ?_ | refine ex_false (by first | decide | omega | assumption | exact (fun h => h rfl)) ?_ | refine ex_dec (fun _ => ?_) (fun _ => ?_) | refine ex_u8 _ rfl (by omega) (by omega) ?_ | refine ex_i64 _ rfl (by omega) (by omega) ?_ | refine ex_u64 _ rfl (by omega) (by omega) ?_ | refine and_mk (by first | omega | (with_reducible rfl) | (show drawOk _ _ _ = true; kernel_rfl)) ?_ | refine and_mk ⟨_, rfl⟩ ?_ | refine ex_is _ (List.length_map _) ?_ | refine ex_is _ List.length_nil ?_ | fail "no step")
        exact ex_round (q + 1) (by show q + 1 ≤ 5; omega) (by show 5 - (q + 1) < 5 - q; omega) (SLe.of ⟨⟨rfl, rfl, rfl, rfl, trivial⟩, trivial⟩)
    · have hp : CallsA Tryz.prog ΓL 8 [c1 (ds (bs t))] (.tup [c1 dnp, gD [di l, di c], c1 (di e)]) := hp
      have he : e = deepE k q := he
      have he0 : 0 < e := Nat.pos_of_ne_zero (fun h0 => by subst h0; exact file_pos hf)
      unfold deepE at he
      by_cases h3 : q < 3
      · rw [if_pos h3] at he
        have hk32 : 32 < k := by
          by_cases h : 32 < k
          · exact h
          · rw [if_neg h] at he; omega
        rw [if_pos hk32] at he
        repeat' (first | refine ex_call hp ?_ | refine ex_i64 ((q + 1 : Nat) : Int) (by omega) (by omega) (by omega) ?_ | refine ex_u64 ((q + 1 : Nat) : Int) (by omega) (by omega) (by omega) ?_ | refine ex_u8 ((q + 1 : Nat) : Int) (by omega) (by omega) (by omega) ?_ | refine (ex_row q (bs t) rfl hx) ?_ | refine ex_true (by first | decide | omega | assumption | (with_reducible exact rfl)) ?_ | refine ex_false (by first | decide | omega | assumption | exact (fun h => h rfl)) ?_ | refine ex_dec (fun _ => ?_) (fun _ => ?_) | refine ex_u8 _ rfl (by omega) (by omega) ?_ | refine ex_i64 _ rfl (by omega) (by omega) ?_ | refine ex_u64 _ rfl (by omega) (by omega) ?_ | refine and_mk (by first | omega | (with_reducible rfl) | (show drawOk _ _ _ = true; kernel_rfl)) ?_ | refine and_mk ⟨_, rfl⟩ ?_ | refine ex_is _ (List.length_map _) ?_ | refine ex_is _ List.length_nil ?_ | fail "no step")
        exact ex_round (q + 1) (by show q + 1 ≤ 5; omega) (by show 5 - (q + 1) < 5 - q; omega) (SLe.of ⟨⟨rfl, rfl, rfl, rfl, trivial⟩, trivial⟩)
      · rw [if_neg h3] at he
        have hk32 : 64 < k := by
          by_cases h : 64 < k
          · exact h
          · rw [if_neg h] at he; omega
        rw [if_pos hk32] at he
        repeat' (first | refine ex_call hp ?_ | refine ex_i64 ((q + 1 : Nat) : Int) (by omega) (by omega) (by omega) ?_ | refine ex_u64 ((q + 1 : Nat) : Int) (by omega) (by omega) (by omega) ?_ | refine ex_u8 ((q + 1 : Nat) : Int) (by omega) (by omega) (by omega) ?_ | refine (ex_row q (bs t) rfl hx) ?_ | refine ex_true (by first | decide | omega | assumption | (with_reducible exact rfl)) ?_ | refine ex_false (by first | decide | omega | assumption | exact (fun h => h rfl)) ?_ | refine ex_dec (fun _ => ?_) (fun _ => ?_) | refine ex_u8 _ rfl (by omega) (by omega) ?_ | refine ex_i64 _ rfl (by omega) (by omega) ?_ | refine ex_u64 _ rfl (by omega) (by omega) ?_ | refine and_mk (by first | omega | (with_reducible rfl) | (show drawOk _ _ _ = true; kernel_rfl)) ?_ | refine and_mk ⟨_, rfl⟩ ?_ | refine ex_is _ (List.length_map _) ?_ | refine ex_is _ List.length_nil ?_ | fail "no step")
        exact ex_round (q + 1) (by show q + 1 ≤ 5; omega) (by show 5 - (q + 1) < 5 - q; omega) (SLe.of ⟨⟨rfl, rfl, rfl, rfl, trivial⟩, trivial⟩)
  · repeat' (first | refine ex_call wakes_c ?_ | refine ex_true (by first | decide | omega | assumption | (with_reducible exact rfl)) ?_ | refine ex_false (by first | decide | omega | assumption | exact (fun h => h rfl)) ?_ | refine ex_dec (fun _ => ?_) (fun _ => ?_) | refine ex_u8 _ rfl (by omega) (by omega) ?_ | refine ex_i64 _ rfl (by omega) (by omega) ?_ | refine ex_u64 _ rfl (by omega) (by omega) ?_ | refine and_mk (by first | omega | (with_reducible rfl) | (show drawOk _ _ _ = true; kernel_rfl)) ?_ | refine and_mk ⟨_, rfl⟩ ?_ | refine ex_is _ (List.length_map _) ?_ | refine ex_is _ List.length_nil ?_ | fail "no step")
    exact TLe.rfl
end Go.Proofs.YtkbhmcdoedmffaaGreatDoor

namespace Go.Proofs.YtkbhmcdoedmffaaGreatDoor
set_option linter.unusedVariables false
set_option linter.unusedSimpArgs false
open Go.ChangeShapes Go.WideShapes Go.ChangeAt Go.RowKit

def tilesF (P : Program) : Nat → List Field → Nat → Bool
  | o, [], n => Nat.beq o n
  | o, f :: fs, n => Nat.beq f.offset o && tilesF P (o + P.cellsOf f.type) fs n
/-- Is a type one that is read, to so many levels? -/
def okT (P : Program) : Nat → TypeId → Bool
  | 0, _ => false
  | d + 1, t => match P.underlying t with
    | some .bool | some (.int _) | some .string => true
    | some (.slice e) => Nat.blt 0 (P.cellsOf e) && okT P d e
    | some (.array n e) => Nat.beq (n * P.cellsOf e) (P.cellsOf t) && okT P d e
    | some (.struct fs) => tilesF P 0 fs.toList (P.cellsOf t) && fs.toList.all fun f => okT P d f.type
    | _ => false
/-- What the cells of a value of a type read as. -/
def DT (P : Program) : Nat → TypeId → List D → Prop
  | 0, _, _ => False
  | d + 1, t, ds => match P.underlying t with
    | some .bool => ∃ b, ds = [.v (.bool b)]
    | some (.int k) => ∃ z, ds = [.v (.int k z)] ∧ (Lit.int k z).wf = true
    | some .string => ∃ s, ds = [.v (.string s)] ∧ s.size ≤ maxLen
    | some (.slice e) => ∃ rows, ds = [.sl (P.cellsOf e) rows] ∧ rows.length ≤ maxLen ∧ ∀ r ∈ rows, DT P d e r
    | some (.array n e) => ∃ ps : List (List D), ps.length = n ∧ ds = ps.flatten ∧ ∀ p ∈ ps, DT P d e p
    | some (.struct fs) => ∃ ps : List (List D), ds = ps.flatten ∧ All2 (fun (f : Field) p => DT P d f.type p) fs.toList ps
    | _ => False
theorem choose_list {α : Type} {Q : Nat → α → Prop} : ∀ {n : Nat}, (∀ i, i < n → ∃ a, Q i a) → ∃ L : List α, L.length = n ∧ ∀ i a, L[i]? = some a → Q i a
  | 0, _ => ⟨[], rfl, fun i a h => by simp at h⟩
  | n + 1, h => by
    obtain ⟨L, h1, h2⟩ := choose_list (n := n) (fun i hi => h i (by omega))
    obtain ⟨a, ha⟩ := h n (by omega)
    refine ⟨L ++ [a], by simp [h1], fun i b hb => ?_⟩
    rw [List.getElem?_append] at hb
    split at hb
    · exact h2 i b hb
    · rename_i hlt
      have hi : i - L.length = 0 := by
        rcases Nat.eq_zero_or_pos (i - L.length) with h | h
        · exact h
        · rw [List.getElem?_eq_none (by simp; omega)] at hb; cases hb
      rw [hi] at hb
      simp at hb
      obtain rfl : i = n := by omega
      rw [← hb]; exact ha
theorem flatten_at {α : Type} {size : Nat} (h0 : 0 < size) : ∀ {rows : List (List α)} (_ : ∀ r ∈ rows, r.length = size) {j : Nat} {d : α}, rows.flatten[j]? = some d → ∃ r, rows[j / size]? = some r ∧ r[j % size]? = some d
  | [], _, j, d, h => by simp at h
  | a :: rows, hr, j, d, h => by
    have ha := hr a (by simp)
    by_cases hj : j < size
    · rw [List.flatten_cons, List.getElem?_append_left (by omega)] at h
      rw [Nat.div_eq_of_lt hj, Nat.mod_eq_of_lt hj]
      exact ⟨a, rfl, h⟩
    · rw [List.flatten_cons, List.getElem?_append_right (by omega), ha] at h
      obtain ⟨r, h1, h2⟩ := flatten_at h0 (fun r hr' => hr r (by simp [hr'])) h
      refine ⟨r, ?_, ?_⟩
      · rw [show j / size = (j - size) / size + 1 by rw [Nat.div_eq_sub_div h0 (by omega)]]
        simpa using h1
      · rw [Nat.mod_eq_sub_mod (by omega)]; exact h2
/-- All memory of a world. -/
def Sall (w : World) : Nat → Prop := fun b => b < w.heap.size
theorem cell_lt {w : World} {a : Addr} {u : Value} (h : w.cell? a = some u) : a.block < w.heap.size ∧ a.spot = none := by
  unfold World.cell? at h
  split at h
  · rename_i c t f hc
    refine ⟨(Array.getElem?_eq_some_iff.1 hc).1, ?_⟩
    split at h
    · cases h
    · rename_i hs
      cases hsp : a.spot with
      | none => rfl
      | some k => rw [hsp] at hs; simp at hs
  · cases h
theorem cells_get {w : World} {base : Nat} {a : Addr} {n : Nat} {cs : List Value} (h : w.cells? base a n = some cs) : cs.length = n ∧ ∀ i, i < n → w.cell? (a.add i) = cs[i]? := by
  unfold World.cells? at h
  split at h
  · obtain ⟨h1, h2⟩ := mapM_isSome h
    rw [List.length_range] at h1
    refine ⟨h1.symm, fun i hi => ?_⟩
    obtain ⟨b, hb1, hb2⟩ := h2 i i (by simp [hi])
    rw [hb1, hb2]
  · cases h
section
variable {H : Type} {enc : TypeId × Value → H} {P : Program} {w : World} {base : Nat} {sp : Nat → Bool} {held : Bool}
theorem parts_all {R : D → Value → Prop} {T : Field → List D → Prop} : ∀ (fs : List Field) (o : Nat) (cs : List Value) (n : Nat), cs.length = n → tilesF P o fs n = true → o ≤ n →
    (∀ f ∈ fs, ∃ ds, T f ds ∧ All2 R ds ((cs.drop f.offset).take (P.cellsOf f.type))) → ∃ ps : List (List D), All2 T fs ps ∧ All2 R ps.flatten (cs.drop o)
  | [], o, cs, n, hl, ht, _, _ => by
    have : o = n := Nat.eq_of_beq_eq_true ht
    exact ⟨[], .nil, by rw [List.drop_of_length_le (by omega)]; exact .nil⟩
  | f :: fs, o, cs, n, hl, ht, ho, h => by
    simp only [tilesF, Bool.and_eq_true] at ht
    have ho' : f.offset = o := Nat.eq_of_beq_eq_true ht.1
    obtain ⟨ds, h1, h2⟩ := h f (by simp)
    have hle : o + P.cellsOf f.type ≤ n := by
      have key : ∀ (fs : List Field) (o : Nat), tilesF P o fs n = true → o ≤ n := fun fs => by
        induction fs with
        | nil => intro o h; exact Nat.le_of_eq (Nat.eq_of_beq_eq_true h)
        | cons g gs ih =>
          intro o h
          simp only [tilesF, Bool.and_eq_true] at h
          have := ih _ h.2
          omega
      exact key fs _ ht.2
    obtain ⟨ps, h3, h4⟩ := parts_all fs _ cs n hl ht.2 hle (fun g hg => h g (by simp [hg]))
    refine ⟨ds :: ps, .cons h1 h3, ?_⟩
    rw [List.flatten_cons, ho'] at *
    have := h2.append h4
    rwa [← List.drop_drop, List.take_append_drop] at this
theorem trod_dt : ∀ (d fuel : Nat) (t : TypeId) (cs : List Value) (x : DataW H × List MemPlace), okT P d t = true → DataW.trod enc P w base sp held fuel t cs = some x → ∃ ds, DT P d t ds ∧ All2 (Imm (Sall w) w) ds cs
  | 0, _, _, _, _, h, _ => by cases h
  | d + 1, fuel, t, cs, x, hok, h => by
    unfold okT at hok
    unfold DT
    split at hok
    · rename_i hu
      obtain ⟨b, rfl, _⟩ := DataW.trod_bool hu h
      exact ⟨_, ⟨b, rfl⟩, .cons (Imm.v rfl) .nil⟩
    · rename_i k hu
      obtain ⟨n, rfl, _, hw⟩ := DataW.trod_int hu h
      exact ⟨_, ⟨n, rfl, hw⟩, .cons (Imm.v rfl) .nil⟩
    · rename_i hu
      obtain ⟨s, rfl, _, hs⟩ := DataW.trod_string hu h
      exact ⟨_, ⟨s, rfl, hs⟩, .cons (Imm.v rfl) .nil⟩
    · rename_i e hu
      simp only [Bool.and_eq_true] at hok
      have h0 : 0 < P.cellsOf e := Nat.lt_of_succ_le (Nat.le_of_ble_eq_true hok.1)
      rcases DataW.trod_slice hu h with ⟨rfl, _⟩ | ⟨a, len, cap, elems, rest, n, _, rfl, _, _, hlc, hcm, hel, hel2, _⟩
      · exact ⟨_, ⟨[], rfl, by simp, by simp⟩, .cons Imm.nil .nil⟩
      · have hone : ∀ i, i < len → ∃ ds, DT P d e ds ∧ ∃ cs', w.cells? base (a.add (i * P.cellsOf e)) (P.cellsOf e) = some cs' ∧ All2 (Imm (Sall w) w) ds cs' := fun i hi => by
          have h1 := hel2 i hi
          rw [List.getElem?_eq_getElem (by omega)] at h1
          obtain ⟨cs', h2, h3⟩ := Option.bind_eq_some_iff.1 h1
          obtain ⟨ds, h4, h5⟩ := trod_dt d n e cs' _ hok.2 h3
          exact ⟨ds, h4, cs', h2, h5⟩
        obtain ⟨rows, hr1, hr2⟩ := choose_list hone
        have hrm : ∀ r ∈ rows, ∃ i, i < len ∧ rows[i]? = some r := fun r hr => by
          obtain ⟨i, hi⟩ := List.getElem?_of_mem hr
          exact ⟨i, by have := (List.getElem?_eq_some_iff.1 hi).1; omega, hi⟩
        have hdt : ∀ r ∈ rows, DT P d e r := fun r hr => by
          obtain ⟨i, _, hi⟩ := hrm r hr
          exact (hr2 i r hi).1
        have hrl : ∀ r ∈ rows, r.length = P.cellsOf e := fun r hr => by
          obtain ⟨i, _, hi⟩ := hrm r hr
          obtain ⟨_, cs', h2, h3⟩ := hr2 i r hi
          rw [h3.len, (cells_get h2).1]
        refine ⟨_, ⟨rows, rfl, by omega, hdt⟩, .cons ?_ .nil⟩
        by_cases hz : len = 0
        · subst hz
          obtain rfl := List.eq_nil_of_length_eq_zero hr1
          exact Imm.sl0
        · obtain ⟨r0, _, cs0, h2, _⟩ := hone 0 (by omega)
          have h3 := (cells_get h2).2 0 h0
          rw [Nat.zero_mul] at h3
          have e0 : (a.add 0).add 0 = a := rfl
          rw [e0, List.getElem?_eq_getElem (by rw [(cells_get h2).1]; exact h0)] at h3
          obtain ⟨hb, hs⟩ := cell_lt h3
          obtain ⟨g, f, spot⟩ := a
          simp only at hs hb
          subst hs
          rw [← hr1]
          have hat : ∀ j dd, rows.flatten[j]? = some dd → ∃ u, w.cell? ⟨g, f + j, none⟩ = some u ∧ Imm (Sall w) w dd u := fun j dd hj => by
            obtain ⟨r, e1, e2⟩ := flatten_at h0 hrl hj
            obtain ⟨_, cs', e3, e4⟩ := hr2 _ r e1
            obtain ⟨u, e5, e6⟩ := e4.at_left e2
            refine ⟨u, ?_, e6⟩
            have e7 := (cells_get e3).2 (j % P.cellsOf e) (Nat.mod_lt _ h0)
            rw [Addr.add_lit, Addr.add_lit, e5] at e7
            rw [← e7]
            congr 2
            rw [Nat.add_assoc, Nat.mul_comm, Nat.div_add_mod]
          refine Imm.sl (fun j => (w.cell? ⟨g, f + j, none⟩).getD undef) hb (by omega) hrl (fun j dd hj => ?_) (fun j dd hj => ?_)
          · obtain ⟨u, e1, _⟩ := hat j dd hj
            rw [e1]; rfl
          · obtain ⟨u, e1, e2⟩ := hat j dd hj
            rw [e1]; exact e2
    · rename_i n e hu
      simp only [Bool.and_eq_true] at hok
      have hn : n * P.cellsOf e = P.cellsOf t := Nat.eq_of_beq_eq_true hok.1
      obtain ⟨xs, m, _, _, hl, hx, hall⟩ := DataW.trod_array hu h
      have hone : ∀ i, i < n → ∃ ds, DT P d e ds ∧ All2 (Imm (Sall w) w) ds ((cs.drop (i * P.cellsOf e)).take (P.cellsOf e)) := fun i hi => by
        have h1 := hall i hi
        rw [List.getElem?_eq_getElem (by omega)] at h1
        exact trod_dt d m e _ _ hok.2 h1
      obtain ⟨ps, hp1, hp2⟩ := choose_list hone
      refine ⟨ps.flatten, ⟨ps, hp1, rfl, fun p hp => ?_⟩, ?_⟩
      · obtain ⟨i, hi⟩ := List.getElem?_of_mem hp
        exact (hp2 i p hi).1
      · have key : ∀ (ps : List (List D)) (o : Nat), (∀ i p, ps[i]? = some p → All2 (Imm (Sall w) w) p ((cs.drop ((o + i) * P.cellsOf e)).take (P.cellsOf e))) → (o + ps.length) * P.cellsOf e = cs.length → All2 (Imm (Sall w) w) ps.flatten (cs.drop (o * P.cellsOf e)) := fun ps => by
          induction ps with
          | nil => intro o _ hlen; rw [List.drop_of_length_le (by simp at hlen; omega)]; exact .nil
          | cons p ps ih =>
            intro o hp hlen
            have h1 := hp 0 p rfl
            have h2 := ih (o + 1) (fun i q hq => by have := hp (i + 1) q (by simpa using hq); rwa [show o + 1 + i = o + (i + 1) by omega]) (by rw [← hlen, List.length_cons]; congr 1; omega)
            rw [List.flatten_cons]
            have := h1.append h2
            rwa [Nat.add_zero, Nat.add_mul, Nat.one_mul, ← List.drop_drop, List.take_append_drop] at this
        have := key ps 0 (fun i p hi => by rw [Nat.zero_add]; exact (hp2 i p hi).2) (by rw [Nat.zero_add, hp1, hn, hl])
        simpa using this
    · rename_i fs hu
      simp only [Bool.and_eq_true] at hok
      obtain ⟨xs, m, _, _, hl, hx, hall⟩ := DataW.trod_struct hu h
      obtain ⟨ps, h1, h2⟩ := parts_all (R := Imm (Sall w) w) (T := fun f p => DT P d f.type p) fs.toList 0 cs _ hl hok.1 (Nat.zero_le _) (fun f hf => by
        obtain ⟨i, hi⟩ := List.getElem?_of_mem hf
        have hlt := (List.getElem?_eq_some_iff.1 hi).1
        have h1 := hall i f (by simpa using hi)
        rw [List.getElem?_eq_getElem (by simp at hlt; omega)] at h1
        exact trod_dt d m f.type _ _ (List.all_eq_true.1 hok.2 f hf) h1)
      exact ⟨ps.flatten, ⟨ps, rfl, h1⟩, by simpa using h2⟩
    · cases hok
/-- An argument that came in reads as data of its type. -/
theorem open_dt {d : Nat} {r : Reach} {b0 : Nat} {t : TypeId} {v : Value} {dd : DataW H} {ps : List MemPlace} (hok : okT P d t = true) (hag : (P.underlying t).map aggD = some false) (hval : Value.okWide P w r b0 t v) (hd : DataW.Trod enc P w base sp held t v dd ps) :
    ∃ x, DT P d t [x] ∧ Imm (Sall w) w x v := by
  obtain ⟨fuel, hf⟩ := hd
  obtain ⟨ds, h1, h2⟩ := trod_dt d fuel t _ _ hok hf
  have hone : v.oneCell' = true := by
    cases d with
    | zero => cases hok
    | succ d =>
      unfold okT at hok
      split at hok
      · rename_i hu; obtain ⟨b, rfl⟩ := okWide_bool hu hval; rfl
      · rename_i hu; obtain ⟨n, rfl⟩ := okWide_int hu hval; rfl
      · rename_i hu; obtain ⟨s, rfl⟩ := okWide_string hu hval; rfl
      · rename_i hu; obtain ⟨a, l, c, rfl⟩ := okWide_slice hu hval; rfl
      · rename_i hu; rw [hu] at hag; cases hag
      · rename_i hu; rw [hu] at hag; cases hag
      · cases hok
  rw [oneCell_cells hone] at h2
  have hl := h2.len
  match ds, h2, hl with
  | [x], h2, _ => exact ⟨x, h1, h2.head⟩
end
end Go.Proofs.YtkbhmcdoedmffaaGreatDoor

namespace Go.Proofs.YtkbhmcdoedmffaaGreatDoor
set_option linter.unusedVariables false
set_option linter.unusedSimpArgs false
open Go.ChangeShapes Go.WideShapes Go.ChangeAt Go.RowKit Go.ChangeMaps
set_option maxRecDepth 100000

set_option maxRecDepth 100000

theorem iface_open {P : Program} {w : World} {base fuel : Nat} {sp : Nat → Bool} {held : Bool} {enc : TypeId × Value → Unit} {t : TypeId} {l : List Value} {x : DataW Unit × List MemPlace} {ms : Array (String × TypeId)} (hi : P.underlying t = some (.interface ms))
    (hd : DataW.trod enc P w base sp held fuel t l = some x) : l = [.nilIface] ∨ ∃ u v, l = [.iface u v] := by
  cases fuel with
  | zero => cases hd
  | succ f =>
    simp only [DataW.trod, hi] at hd
    split at hd <;> first | exact .inl rfl | exact .inr ⟨_, _, rfl⟩ | (cases hd; done) | (rename_i h1; cases h1; done) | (rename_i h1 h2; cases h1; done) | (rename_i h1 h2 h3; cases h1; done)
theorem errAt_of {W : World} {n : String} {g : Nat} {cs : Array Value} (hg : Tryz.prog.globalNamed n = some g) (hv : W.var? Tryz.prog n = some cs) (h : cs.toList = [.nilIface] ∨ ∃ u v, cs.toList = [.iface u v]) : ErrAt W g ∧ g < W.heap.size := by
  have hc : ∀ ev, cs.toList = [ev] → W.cell? ⟨g, 0, none⟩ = some ev := fun ev he => by
    rw [World.var?_cell hg hv 0]
    have : cs = #[ev] := by cases cs; simpa using he
    rw [this]; rfl
  refine ⟨?_, ?_⟩
  · rcases h with h | ⟨u, v, h⟩
    · exact ⟨_, hc _ h, .inl rfl⟩
    · exact ⟨_, hc _ h, .inr ⟨u, v, rfl⟩⟩
  · unfold World.var? at hv
    rw [hg] at hv
    simp only [Option.bind_some] at hv
    by_cases hl : g < W.heap.size
    · exact hl
    · rw [Array.getElem?_eq_none (by omega)] at hv; cases hv
/-- An array of strings that reads as the table holds the table's strings, cell for cell. -/
theorem cells_of_strs {H : Type} {enc : TypeId × Value → H} {P : Program} {w : World} {base : Nat} {sp : Nat → Bool} {held : Bool} {fuel : Nat} {t e : TypeId} {n : Nat} {cs : List Value} {zs : List (List UInt8)} {p : List MemPlace}
    (ht : P.underlying t = some (.array n e)) (he : P.underlying e = some .string) (hce : P.cellsOf e = 1) (hct : P.cellsOf t = n)
    (h : DataW.trod enc P w base sp held fuel t cs = some (.agg (zs.map fun z => .lit (.string z)), p)) : cs = zs.map fun z => Value.string (bs z) := by
  cases fuel with
  | zero => simp [DataW.trod] at h
  | succ fuel =>
    simp only [DataW.trod, ht, hce, hct, Nat.mul_one] at h
    split at h
    · rename_i hl
      obtain ⟨xs, hm, hx⟩ := Option.map_eq_some_iff.1 h
      have hxs : xs.map (·.1) = zs.map fun z => (DataW.lit (.string z) : DataW H) := by
        have := congrArg Prod.fst hx
        simpa using this
      have hxl : xs.length = n := by simpa using Lib.mapM_length hm
      have hzl : zs.length = n := by
        have := congrArg List.length hxs
        simp at this
        omega
      apply List.ext_getElem?
      intro i
      by_cases hi : i < n
      · obtain ⟨b, hb, hf⟩ := Lib.mapM_at hm i i (by simp [hi])
        obtain ⟨z, hc, rfl, _⟩ := DataW.trod_string he hf
        have h1 : cs[i]? = some (.string z) := by
          have := congrArg (·[0]?) hc
          simpa [List.getElem?_take, List.getElem?_drop] using this
        have h2 : (xs.map (·.1))[i]? = some (DataW.lit (.string z.data.toList) : DataW H) := by simp [hb]
        rw [hxs] at h2
        simp only [List.getElem?_map, Option.map_eq_some_iff, DataW.lit.injEq, Lit.string.injEq] at h2
        obtain ⟨z', hz', rfl⟩ := h2
        simp [h1, hz']
      · rw [List.getElem?_eq_none (by omega), List.getElem?_eq_none (by simp; omega)]
    · cases h
theorem glob_deep {W : World} (h : laidMetH Tryz.prog Rows.parseDeepRow.laid W) (hs : W.ShapedOpen Tryz.prog) : ΓL.G (Sall W) W := by
  obtain ⟨m, hm⟩ := Tryz.laysM145.s1_3 W hs
  rw [MakeChecks.laidMetH_plain _ _ _ (by kernel_rfl)] at h
  obtain ⟨ps, h, -⟩ := h
  obtain ⟨g1, t1, c1, f1, p1, q1, -, -, -, -, h, -⟩ := h
  obtain ⟨g2, t2, c2, f2, p2, q2, -, -, -, -, h, -⟩ := h
  obtain ⟨g3, t3, c3, f3, p3, q3, -, -, -, -, h, -⟩ := h
  obtain ⟨g0, t0, c0, f0, p0, q0, -, -, -, -, h, -⟩ := h
  obtain ⟨g4, t4, c4, f4, p4, q4, hg4, ht4, hv4, hd4, h, -⟩ := h
  obtain ⟨g5, t5, c5, f5, p5, q5, hg5, ht5, hv5, hd5, h, -⟩ := h
  obtain ⟨g6, t6, c6, f6, p6, q6, hg6, ht6, hv6, hd6, h, -⟩ := h
  obtain rfl := Option.some.inj ((show Tryz.prog.globalNamed "strconv.ErrRange" = some 3 by kernel_rfl).symm.trans hg4)
  obtain rfl := Option.some.inj ((show Tryz.prog.globalNamed "strconv.ErrSyntax" = some 2 by kernel_rfl).symm.trans hg5)
  obtain rfl := Option.some.inj ((show Tryz.prog.globalNamed "calliper/lex.signs" = some 0 by kernel_rfl).symm.trans hg6)
  obtain rfl := Option.some.inj ((show (Tryz.prog.globals[3]?).map (·.type) = some 142 by kernel_rfl).symm.trans ht4)
  obtain rfl := Option.some.inj ((show (Tryz.prog.globals[2]?).map (·.type) = some 142 by kernel_rfl).symm.trans ht5)
  obtain rfl := Option.some.inj ((show (Tryz.prog.globals[0]?).map (·.type) = some 164 by kernel_rfl).symm.trans ht6)
  have e4 := errAt_of hg4 hv4 (iface_open Tryz.underlying142 hd4)
  have e5 := errAt_of hg5 hv5 (iface_open Tryz.underlying142 hd5)
  have hc := cells_of_strs (zs := signsL) (n := 29) (t := 164) (e := 9) (by kernel_rfl) (by kernel_rfl) (by kernel_rfl) (by kernel_rfl) hd6
  refine ⟨e5, e4, ⟨m, hm, (cell_lt hm).1⟩, fun j l hj => ?_, ?_⟩
  · rw [World.var?_cell hg6 hv6 j]
    have : c6 = ⟨signsL.map fun z => Value.string (bs z)⟩ := by cases c6; simpa using hc
    rw [this]
    rw [show (⟨signsL.map fun z => Value.string (bs z)⟩ : Array Value) = (signsL.map fun z => Value.string (bs z)).toArray from rfl, List.getElem?_toArray, List.getElem?_map, hj]
    rfl
  · have hv := hv6
    unfold World.var? at hv
    rw [hg6] at hv
    simp only [Option.bind_some] at hv
    show 0 < W.heap.size
    by_cases hl : 0 < W.heap.size
    · exact hl
    · rw [Array.getElem?_eq_none (by omega)] at hv; cases hv
theorem bs_list (s : ByteArray) : bs s.data.toList = s := by simp [bs]
end Go.Proofs.YtkbhmcdoedmffaaGreatDoor

namespace Go.Proofs.YtkbhmcdoedmffaaGreatDoor
set_option linter.unusedVariables false
set_option linter.unusedSimpArgs false
open Go.ChangeShapes Go.WideShapes Go.ChangeAt Go.RowKit Go.ChangeMaps
set_option maxRecDepth 100000

theorem parseDeep_a (n : Int) (hn : 0 ≤ n ∧ n ≤ 255) : CallsA Tryz.prog ΓL 7 [c1 (.v (.int .u8 n))] (.o (c1 (db true))) := parseDeep_c n hn
namespace parseDeep
set_option maxRecDepth 100000 in
theorem lifted (os : Os) (started : os.Started) (H : Type) (enc : TypeId × Value → H) :
    ReturnsInHanded {} Tryz.checked os 7 .any (fun w args => (Rows.parseDeepSpec.pre enc Tryz.prog Tryz.f7 Rows.parseDeepRow.domain false w args ∧ laidMetH Tryz.prog Rows.parseDeepRow.laid w) ∧ sizedMet enc Tryz.prog Tryz.f7 (OpenSpec.ofChange Rows.parseDeepSpec) false w args) (Rows.parseDeepSpec.post enc Tryz.prog Tryz.f7 false true false false) := by
  show ReturnsInHanded {} Tryz.checked os 7 .any ((OpenSpec.ofChange Rows.parseDeepSpec).preRow enc Tryz.prog Tryz.f7 Rows.parseDeepRow.domain false Rows.parseDeepRow.laid) (((OpenSpec.ofChange Rows.parseDeepSpec).at fun _ _ _ => 0).post enc Tryz.prog Tryz.f7 false true false false)
  refine returnsInHanded_of_row (C := Tryz.checked) own started (by kernel_rfl) Tryz.func7
    (ChangeSpec.witness_shaped (enc := enc) (C := Tryz.checked) (os := os) (X := fun w _ => laidMetH Tryz.prog Rows.parseDeepRow.laid w) false (World.laidAll Tryz.prog os Rows.parseDeepRow.laid) #[.int .u8 0] 8 (World.laidAll_os _ _ _) (World.shaped_of_ZipB (by kernel_rfl) (by kernel_rfl)) (by kernel_rfl) (by kernel_rfl) (by kernel_rfl)
      (by rw [MakeChecks.laidMetH_plain _ _ _ (by kernel_rfl)]; exact laidMet_laidAll _ (by kernel_rfl) (by kernel_rfl))) ?_
  intro W base args ds gs before hval0 hW _ _ hsz0 hLaid hShaped _
  have hsz : (DataW.weightsEach Tryz.prog (Tryz.f7.params.toList ++ Rows.parseDeepSpec.plain.varTypes Tryz.prog) (ds ++ gs)).all (· ≤ reachBytes) = true := hsz0
  have hval : ∀ (j : Nat) t v, Tryz.f7.params[j]? = some t → args[j]? = some v → Value.okWide Tryz.prog W .any base t v := hval0
  clear hsz0 hval0
  have hW' := hW
  obtain ⟨p, q, hA0, hV, rfl, hfz, hnd⟩ := hW
  have hA : DataW.TrodAll enc Tryz.prog W 0 (fun _ => true) true Tryz.f7.params.toList args.toList ds p := hA0
  clear hA0
  rw [Tryz.params7] at hA hval hsz
  obtain ⟨v0, vs0, d0, ds0, p0, q0, hargs, rfl, rfl, h0, r0⟩ := trodAll_cons hA
  obtain ⟨rfl, rfl, rfl⟩ := trodAll_nil r0
  obtain rfl : args = #[v0] := by cases args; simp_all
  obtain ⟨rfl, rfl⟩ := trodVars_none hV
  obtain ⟨n, rfl, rfl, rfl, hw0⟩ := open_int Tryz.underlying5 (hval 0 5 v0 rfl rfl) h0
  have w_n := wf_u8 hw0
  refine ((parseDeep_a n w_n).2 (Sall W) W [.int .u8 n] (fun _ h => h) (glob_deep hLaid hShaped) (.cons (Imm.v rfl) .nil)).mono fun e W' ⟨xr, _, he, hb, _, _, _, hv⟩ => ?_
  obtain rfl := V_v hv
  subst he
  exact ⟨_, rfl, law_post (ds := [_]) laidOut hW' rfl (by kernel_rfl) rfl Tryz.underlying4 rfl rfl rfl hb⟩

theorem proved : Rows.ParseDeepSaid :=
  OpenClaim.holds_of_wide 7 Tryz.f7 rfl rfl rfl rfl rfl rfl rfl ⟨rfl, rfl, rfl, rfl, rfl⟩ rfl rfl rfl rfl rfl (by kernel_rfl) Tryz.func7 (by kernel_rfl)
    (of_decide_eq_true (by kernel_rfl)) (by unfold Func.isWrapper; first | (rw [if_pos (by decide +kernel)]; kernel_rfl) | (rw [if_neg (by decide +kernel)]; exact ⟨rfl, rfl⟩))
    (fun os started H enc _ => lifted os started H enc)
theorem card : Rows.ParseDeepCardSaid :=
  Claim7.holds_tied_plain_at .later [] [.data, .data, .data, .data, .sentinel, .sentinel, .data, .pinned] true (true, "ec5bc6e8b0fb9468024158bd189343d78467342a5495d1a3cd709f154151ef2f") true proved (fun _ h => by cases h) (by kernel_rfl) (fun _ h => by cases h) parseDeep_row_tie rfl ⟨rfl, rfl⟩ (by kernel_rfl) rfl
    (fun f fn hf hfn => by
      obtain rfl : f = 7 := Option.some.inj ((show Tryz.prog.funcNamed "calliper/calliperlaw07.ParseDeep" = some 7 by kernel_rfl).symm.trans hf) |>.symm
      obtain rfl : fn = Tryz.f7 := (Option.some.inj (Tryz.func7.symm.trans hfn)).symm
      exact ⟨by kernel_rfl, fun j t ht => by
        rw [Tryz.params7] at ht
        have hm : t ∈ [5] := by simpa using Array.mem_of_getElem? ht
        have hall : ([5].all fun u => !Tryz.prog.wantsStandIn u) = true := by kernel_rfl
        exact (show Tryz.prog.wantsStandIn t = false by simpa using List.all_eq_true.1 hall t hm)⟩)
    (by kernel_rfl)
end parseDeep
end Go.Proofs.YtkbhmcdoedmffaaGreatDoor
