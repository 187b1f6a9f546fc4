/-
  CHAPTER 14: values, small functions, lists.
-/
import Derived.Test.YtglkhoamnmiolaaSy
import Derived.Test.YtglkhoamnmiolaaE9
namespace Go.Proofs.Ytglkhoamnmiolaa.R
open Go Go.Proofs.Ytglkhoamnmiolaa.Vm
set_option linter.unusedVariables false
set_option linter.unusedSimpArgs false
variable {M : YM}
abbrev uI (n : Int) : U := .c (.int .i64 n)
def uIs (b : Bool) (l : List Int) : U := .sl b (l.map uI)
structure E4 where
  f : Int
  t : Int
  n : Int
  v : Int
def uE (e : E4) : U := .st [uI e.f, uI e.t, uI e.n, uI e.v]
def uEs (b : Bool) (es : List E4) : U := .sl b (es.map uE)
def uLs (b : Bool) (xs : List (Bool × List Int)) : U := .sl b (xs.map fun x => uIs x.1 x.2)
@[simp] theorem len_uIs (b : Bool) (l : List Int) : U.len (uIs b l) = some l.length := by simp [uIs, U.len, U.asL]
@[simp] theorem len_uEs (b : Bool) (l : List E4) : U.len (uEs b l) = some l.length := by simp [uEs, U.len, U.asL]
@[simp] theorem len_uLs (b : Bool) (l : List (Bool × List Int)) : U.len (uLs b l) = some l.length := by simp [uLs, U.len, U.asL]
@[simp] theorem asI_uI (n : Int) : U.asI .i64 (uI n) = some n := by simp [U.asI, U.asC, C.asI]
@[simp] theorem asI_c (n : Int) : U.asI .i64 (.c (.int .i64 n)) = some n := asI_uI n
@[simp] theorem asB_c (b : Bool) : U.asB (.c (.bool b)) = some b := rfl
@[simp] theorem toU_val (u : U) : Rz.toU (.val u) = some u := rfl
@[simp] theorem asTup_tup (us : List U) : Rz.asTup (.tup us) = some us := rfl
@[simp] theorem asSl_sl (s : Sx) : Rz.asSl (.sl s) = some s := rfl
@[simp] theorem cell_c (c : C) : U.cell (.c c) 0 = some (.c c) := rfl
@[simp] theorem cell_uIs (b : Bool) (l : List Int) : U.cell (uIs b l) 0 = some (uIs b l) := rfl
@[simp] theorem one_uIs (b : Bool) (l : List Int) : U.one (uIs b l) = some (uIs b l) := rfl
@[simp] theorem size_uIs (b : Bool) (l : List Int) : U.size (uIs b l) = 1 := rfl
theorem idx_uIs {b : Bool} {l : List Int} {k : Nat} {x : Int} (h : l[k]? = some x) : U.idx 1 (uIs b l) (k : Int) = some (uI x) := by
  simp [U.idx, uIs, U.asL, elU, h, U.size, U.cells]
theorem idx_uEs {b : Bool} {l : List E4} {k : Nat} {x : E4} (h : l[k]? = some x) : U.idx 4 (uEs b l) (k : Int) = some (uE x) := by
  simp [U.idx, uEs, U.asL, elU, h, U.size, U.cells, uE]
theorem idx_uLs {b : Bool} {l : List (Bool × List Int)} {k : Nat} {x : Bool × List Int} (h : l[k]? = some x) : U.idx 1 (uLs b l) (k : Int) = some (uIs x.1 x.2) := by
  simp only [U.idx, uLs, U.asL, Option.bind_some, elU, Int.natCast_nonneg, if_true, Int.toNat_natCast, List.getElem?_map, h, Option.map_some]
  rfl
theorem struct_uE (e : E4) : ∃ f, U.struct (uE e) 0 ks0 = some f ∧ f 0 = uI e.f ∧ f 1 = uI e.t ∧ f 2 = uI e.n ∧ f 3 = uI e.v := by
  refine ⟨fun i => [uI e.f, uI e.t, uI e.n, uI e.v].getD (0 + i) (.c .junk), ?_, rfl, rfl, rfl, rfl⟩
  simp [U.struct, uE, ks0, hasKs, U.hasK]
@[simp] theorem i_uI (n : Int) : U.i (uI n) = n := rfl
theorem wrap_succ {k : Nat} (h : k ≤ 1000000000) : IntKind.wrap .i64 ((k : Int) + 1) = ((k + 1 : Nat) : Int) := by rw [wrap_in (by omega) (by omega)]; simp
theorem get?_of_lt {α : Type} {l : List α} {k : Nat} (h : k < l.length) : l[k]? = some l[k] := List.getElem?_eq_getElem h

/-! ### small functions -/
def btw (n lo hi : Int) : Bool := decide (lo ≤ n ∧ n ≤ hi)
theorem y41_is (n lo hi : Int) : y41 M n lo hi = some (.val (.c (.bool (btw n lo hi)))) := by
  rw [y41_eq]
  by_cases h : lo ≤ n <;> simp [h, btw]
theorem y55_is (n lo hi : Int) : y55 M n lo hi = some (.val (.c (.bool (btw n lo hi)))) := by
  rw [y55_eq]
  by_cases h : lo ≤ n <;> simp [h, btw]
theorem y107_is (n lo hi : Int) : y107 M n lo hi = some (.val (.c (.bool (btw n lo hi)))) := by
  rw [y107_eq]
  by_cases h : lo ≤ n <;> simp [h, btw]
theorem y53_is (b : Bool) (c : Int) : y53 M b c = some (.val (uI (if b = true then c else 0))) := by
  rw [y53_eq]; cases b <;> rfl
theorem y108_is (b : Bool) (c : Int) : y108 M b c = some (.val (uI (if b = true then c else 0))) := by
  rw [y108_eq]; cases b <;> rfl
theorem y106_is (n : Int) : y106 M n = some (.val (.c (.bool (!btw n 0 4095)))) := by
  rw [y106_eq]; simp [y107_is]
/-- the first number that is not 0 -/
def firstErr : List Int → Int
  | [] => 0
  | x :: l => if x = 0 then firstErr l else x
theorem y52_1_is {b : Bool} {l : List Int} (hn : l.length ≤ 1000000) : ∀ (d k : Nat), k + d = l.length → y52_1 M 0 (uIs b l) (l.length : Int) (k : Int) = some (.val (uI (firstErr (l.drop k)))) := by
  intro d
  induction d with
  | zero =>
    intro k hk
    rw [y52_1_eq, List.drop_of_length_le (by omega)]
    simp [show ¬ ((k : Int) < l.length) by omega, firstErr]
  | succ d ih =>
    intro k hk
    have hlt : k < l.length := by omega
    rw [y52_1_eq, List.drop_eq_getElem_cons hlt]
    simp only [show ((k : Int) < l.length) by omega, decide_true, if_true, idx_uIs (get?_of_lt hlt), Option.bind_some, cell_c, asI_c, firstErr, wrap_succ (show k ≤ 1000000000 by omega)]
    by_cases h0 : l[k] = 0
    · simp only [h0, decide_true, Bool.not_true, Bool.false_eq_true, if_false, if_true]
      exact ih (k + 1) (by omega)
    · simp [h0]
theorem y52_is {b : Bool} {l : List Int} (hn : l.length ≤ 1000000) : y52 M (uIs b l) = some (.val (uI (firstErr l))) := by
  rw [y52_eq]
  simp only [len_uIs, Option.bind_some]
  exact y52_1_is hn l.length 0 (by omega)
theorem y52_lit (l : List Int) (hn : l.length ≤ 1000000) : y52 M (Sx.fz (⟨true, 1, l.map uI⟩ : Sx)) = some (.val (uI (firstErr l))) := y52_is (b := true) hn

/-! ### lists -/
theorem y49_1_is {b : Bool} {l : List Int} (v : Int) (hn : l.length ≤ 1000000) : ∀ (d k : Nat), k + d = l.length → y49_1 M (uIs b l) v (k : Int) = some (.val (.c (.bool (decide (v ∈ l.drop k))))) := by
  intro d
  induction d with
  | zero =>
    intro k hk
    rw [y49_1_eq, List.drop_of_length_le (by omega)]
    simp [show ¬ (k < l.length) by omega]
  | succ d ih =>
    intro k hk
    have hlt : k < l.length := by omega
    rw [y49_1_eq, List.drop_eq_getElem_cons hlt]
    simp only [len_uIs, show ((k : Int) < l.length) by omega, decide_true, if_true, idx_uIs (get?_of_lt hlt), Option.bind_some, cell_c, asI_c, wrap_succ (show k ≤ 1000000000 by omega)]
    by_cases h0 : l[k] = v
    · simp [h0]
    · simp only [h0, decide_false, Bool.false_eq_true, if_false, ih (k + 1) (by omega), List.mem_cons]
      have : ¬ v = l[k] := fun e => h0 e.symm
      simp [this]
theorem y49_is {b : Bool} {l : List Int} (v : Int) (hn : l.length ≤ 1000000) : y49 M (uIs b l) v = some (.val (.c (.bool (decide (v ∈ l))))) := by
  rw [y49_eq]
  exact y49_1_is v hn l.length 0 (by omega)
theorem y90_1_is {b : Bool} {l : List Int} (v : Int) (hn : l.length ≤ 1000000) : ∀ (d k : Nat), k + d = l.length → ∃ i : Int, y90_1 M (uIs b l) v (l.length : Int) (k : Int) = some (.val (uI i)) ∧ decide (0 ≤ i) = decide (v ∈ l.drop k) := by
  intro d
  induction d with
  | zero =>
    intro k hk
    rw [y90_1_eq, List.drop_of_length_le (by omega)]
    exact ⟨-1, by simp [show ¬ ((k : Int) < l.length) by omega], by simp⟩
  | succ d ih =>
    intro k hk
    have hlt : k < l.length := by omega
    rw [y90_1_eq, List.drop_eq_getElem_cons hlt]
    simp only [show ((k : Int) < l.length) by omega, decide_true, if_true, idx_uIs (get?_of_lt hlt), Option.bind_some, cell_c, asI_c, wrap_succ (show k ≤ 1000000000 by omega)]
    by_cases h0 : v = l[k]
    · exact ⟨k, by simp [h0], by simp [-List.getElem_cons_drop, h0]⟩
    · obtain ⟨i, h1, h2⟩ := ih (k + 1) (by omega)
      exact ⟨i, by simp only [h0, decide_false, Bool.false_eq_true, if_false, h1], by rw [h2]; simp [-List.getElem_cons_drop, h0]⟩
theorem y56_is {b : Bool} {l : List Int} (v : Int) (hn : l.length ≤ 1000000) : y56 M (uIs b l) v = some (.val (.c (.bool (decide (v ∈ l))))) := by
  obtain ⟨i, h1, h2⟩ := y90_1_is (M := M) (b := b) v hn l.length 0 (by omega)
  rw [y56_eq, y90_eq]
  simp only [len_uIs, Option.bind_some]
  rw [show ((0 : Nat) : Int) = 0 from rfl] at h1
  rw [h1]
  simp only [Option.bind_some, toU_val, asI_c, h2, List.drop_zero]
/-- a list of which something holds for one, by a function -/
theorem y91_1_is {b : Bool} {l : List Int} {g : FuncId} {a c : List U} {p : Int → Bool} (hp : ∀ n, ycall M g (a ++ [uI n] ++ c) = some (.val (.c (.bool (p n))))) (hn : l.length ≤ 1000000) : ∀ (d k : Nat), k + d = l.length → ∃ i : Int, y91_1 M (uIs b l) (.fn g a c) (l.length : Int) (k : Int) = some (.val (uI i)) ∧ decide (0 ≤ i) = (l.drop k).any p := by
  intro d
  induction d with
  | zero =>
    intro k hk
    rw [y91_1_eq, List.drop_of_length_le (by omega)]
    exact ⟨-1, by simp [show ¬ ((k : Int) < l.length) by omega], by simp⟩
  | succ d ih =>
    intro k hk
    have hlt : k < l.length := by omega
    rw [y91_1_eq, List.drop_eq_getElem_cons hlt]
    simp only [show ((k : Int) < l.length) by omega, decide_true, if_true, idx_uIs (get?_of_lt hlt), Option.bind_some, cell_c, asI_c, wrap_succ (show k ≤ 1000000000 by omega), U.asF]
    have := hp l[k]
    simp only [uI] at this
    simp only [this, Option.bind_some, toU_val, asB_c]
    cases h0 : p l[k] with
    | true => exact ⟨k, by simp, by simp [-List.getElem_cons_drop, h0]⟩
    | false =>
      obtain ⟨i, h1, h2⟩ := ih (k + 1) (by omega)
      exact ⟨i, by simp only [Bool.false_eq_true, if_false, h1], by rw [h2]; simp [-List.getElem_cons_drop, h0]⟩
theorem y61_is {b : Bool} {l : List Int} {g : FuncId} {a c : List U} {p : Int → Bool} (hp : ∀ n, ycall M g (a ++ [uI n] ++ c) = some (.val (.c (.bool (p n))))) (hn : l.length ≤ 1000000) : y61 M (uIs b l) (.fn g a c) = some (.val (.c (.bool (l.any p)))) := by
  obtain ⟨i, h1, h2⟩ := y91_1_is (M := M) (b := b) hp hn l.length 0 (by omega)
  rw [y61_eq, y91_eq]
  simp only [len_uIs, Option.bind_some]
  rw [show ((0 : Nat) : Int) = 0 from rfl] at h1
  rw [h1]
  simp only [Option.bind_some, toU_val, asI_c, h2, List.drop_zero]
theorem y75_1_is {b : Bool} {l : List E4} {g : FuncId} {a c : List U} {p : E4 → Bool} (hp : ∀ e, ycall M g (a ++ [uE e] ++ c) = some (.val (.c (.bool (p e))))) (hn : l.length ≤ 1000000) : ∀ (d k : Nat), k + d = l.length → ∃ i : Int, y75_1 M (uEs b l) (.fn g a c) (l.length : Int) (k : Int) = some (.val (uI i)) ∧ decide (0 ≤ i) = (l.drop k).any p := by
  intro d
  induction d with
  | zero =>
    intro k hk
    rw [y75_1_eq, List.drop_of_length_le (by omega)]
    exact ⟨-1, by simp [show ¬ ((k : Int) < l.length) by omega], by simp⟩
  | succ d ih =>
    intro k hk
    have hlt : k < l.length := by omega
    obtain ⟨f, f0, f1, f2, f3, f4⟩ := struct_uE l[k]
    rw [y75_1_eq, List.drop_eq_getElem_cons hlt]
    simp only [show ((k : Int) < l.length) by omega, decide_true, if_true, idx_uEs (get?_of_lt hlt), Option.bind_some, f0, f1, f2, f3, f4, i_uI, wrap_succ (show k ≤ 1000000000 by omega), U.asF]
    have := hp l[k]
    simp only [uE, uI] at this
    simp only [this, Option.bind_some, toU_val, asB_c]
    cases h0 : p l[k] with
    | true => exact ⟨k, by simp, by simp [-List.getElem_cons_drop, h0]⟩
    | false =>
      obtain ⟨i, h1, h2⟩ := ih (k + 1) (by omega)
      exact ⟨i, by simp only [Bool.false_eq_true, if_false, h1], by rw [h2]; simp [-List.getElem_cons_drop, h0]⟩
theorem y58_is {b : Bool} {l : List E4} {g : FuncId} {a c : List U} {p : E4 → Bool} (hp : ∀ e, ycall M g (a ++ [uE e] ++ c) = some (.val (.c (.bool (p e))))) (hn : l.length ≤ 1000000) : y58 M (uEs b l) (.fn g a c) = some (.val (.c (.bool (l.any p)))) := by
  obtain ⟨i, h1, h2⟩ := y75_1_is (M := M) (b := b) hp hn l.length 0 (by omega)
  rw [y58_eq, y75_eq]
  simp only [len_uEs, Option.bind_some]
  rw [show ((0 : Nat) : Int) = 0 from rfl] at h1
  rw [h1]
  simp only [Option.bind_some, toU_val, asI_c, h2, List.drop_zero]
end Go.Proofs.Ytglkhoamnmiolaa.R
