/-
  CHAPTER 14: which automata are right.
-/
import Derived.Test.YtglkhoamnmiolaaWb
namespace Go.Proofs.Ytglkhoamnmiolaa.R
open Go Go.Proofs.Ytglkhoamnmiolaa.Vm
set_option linter.unusedVariables false
set_option linter.unusedSimpArgs false
variable {M : YM}
def prev (l : List Int) (k : Nat) : Option Int := if k = 0 then none else l[k - 1]?
theorem prev_succ {l : List Int} {k : Nat} (h : k < l.length) : prev l (k + 1) = some l[k] := by unfold prev; simp [h]
/-- the error of a state in a list that must ascend -/
def code (n : Int) (p : Option Int) (x : Int) : Int := if btw x 0 (n - 1) = true then (if p.any (fun y => decide (x ≤ y)) = true then 13 else 0) else 3
def sErr (n : Int) : Option Int → List Int → Int
  | _, [] => 0
  | p, x :: l => if code n p x = 0 then sErr n (some x) l else code n p x
def eOK (n : Int) (e : E4) : Bool := btw e.f 0 (n - 1) && btw e.t 0 (n - 1) && btw e.n 0 4095 && btw e.v 0 4095
def eAll (n : Int) (es : List E4) : Int := if es.all (eOK n) = true then 0 else 3
theorem eAll_nil (n : Int) : eAll n [] = 0 := rfl
theorem eAll_cons (n : Int) (e : E4) (es : List E4) : eAll n (e :: es) = if (btw e.f 0 (n - 1) && btw e.t 0 (n - 1) && btw e.n 0 4095 && btw e.v 0 4095) = true then eAll n es else 3 := by
  simp only [eAll, List.all_cons]
  have : eOK n e = (btw e.f 0 (n - 1) && btw e.t 0 (n - 1) && btw e.n 0 4095 && btw e.v 0 4095) := rfl
  rw [← this]
  by_cases h : eOK n e = true
  · simp [h]
  · simp only [Bool.not_eq_true] at h; simp [h]
def lErr (n : Int) : List (Bool × List Int) → Int
  | [] => 0
  | l :: r => if sErr n none l.2 = 0 then lErr n r else sErr n none l.2
def aErr (a : Int) (l : List Int) (es : List E4) (xs : List (Bool × List Int)) : Int :=
  if btw a 0 300 = true then (if 6000 < es.length ∨ 8 < xs.length then 2 else if sErr a none l = 0 then (if es.all (eOK a) = true then lErr a xs else 3) else sErr a none l) else 3
theorem wrap_sub1 {a : Int} (h : btw a 0 300 = true) : IntKind.wrap .i64 (a - 1) = a - 1 := by
  simp only [btw, decide_eq_true_eq] at h
  exact wrap_in (by omega) (by omega)
theorem y65_is {b : Bool} {a : Int} {a1 a2 a3 : U} {l : List Int} (ha : btw a 0 300 = true) (hn : l.length ≤ 1000000) {k : Nat} (hk : k < l.length) : y65 M a a1 a2 a3 (uIs b l) (k : Int) = some (.val (uI (code a (prev l k) l[k]))) := by
  rw [y65_eq]
  simp only [idx_uIs (get?_of_lt hk), Option.bind_some, cell_c, asI_c, wrap_sub1 ha, y41_is, toU_val, asB_c, code]
  by_cases hb : btw l[k] 0 (a - 1) = true
  · simp only [hb, Bool.not_true, Bool.false_eq_true, if_false, if_true]
    by_cases h0 : k = 0
    · subst h0; simp [prev]
    · have hw : IntKind.wrap .i64 ((k : Int) - 1) = ((k - 1 : Nat) : Int) := by rw [wrap_in (by omega) (by omega)]; omega
      have hp : prev l k = some l[k - 1] := by unfold prev; rw [if_neg h0]; exact get?_of_lt (by omega)
      simp only [show ((0 : Int) < k) by omega, decide_true, if_true, hw, idx_uIs (b := b) (get?_of_lt (show k - 1 < l.length by omega)), Option.bind_some, cell_c, asI_c, hp, Option.any_some]
      by_cases hle : l[k] ≤ l[k - 1] <;> simp [hle]
  · simp only [Bool.not_eq_true] at hb
    simp [hb]
theorem y63_1_is {b : Bool} {a : Int} {l : List Int} (ha : btw a 0 300 = true) (hn : l.length ≤ 1000000) : ∀ (d k : Nat), k + d = l.length → ∃ i : Int, y63_1 M (uIs b l) a (uIs b l) (l.length : Int) (k : Int) = some (.tup [uI i, uI (sErr a (prev l k) (l.drop k))]) := by
  intro d
  induction d with
  | zero =>
    intro k hk
    rw [y63_1_eq, List.drop_of_length_le (by omega)]
    exact ⟨0, by simp [show ¬ ((k : Int) < l.length) by omega, sErr]⟩
  | succ d ih =>
    intro k hk
    have hlt : k < l.length := by omega
    obtain ⟨i, h1⟩ := ih (k + 1) (by omega)
    rw [prev_succ hlt] at h1
    have hlit := fun a b => y52_lit (M := M) [a, b] (by simp)
    simp only [List.map_cons, List.map_nil, uI] at hlit
    rw [y63_1_eq, List.drop_eq_getElem_cons hlt]
    have hq : (if (decide ((0 : Int) < (k : Int))) = true then
        (U.idx 1 (uIs b l) (if 0 > (IntKind.wrap .i64 ((k : Int) - 1)) then 0 else (IntKind.wrap .i64 ((k : Int) - 1)))).bind fun v10 =>
        (U.cell v10 0).bind fun c11 => (U.asI .i64 c11).bind fun n12 => some (decide (l[k] ≤ n12))
      else some (decide ((0 : Int) < (k : Int)))) = some ((prev l k).any fun y => decide (l[k] ≤ y)) := by
      by_cases h0 : k = 0
      · subst h0; simp [prev]
      · have hw : IntKind.wrap .i64 ((k : Int) - 1) = ((k - 1 : Nat) : Int) := by rw [wrap_in (by omega) (by omega)]; omega
        have hp : prev l k = some l[k - 1] := by unfold prev; rw [if_neg h0]; exact get?_of_lt (by omega)
        simp only [show ((0 : Int) < k) by omega, decide_true, if_true, hw, show ¬ ((0 : Int) > ((k - 1 : Nat) : Int)) by omega, if_false, idx_uIs (b := b) (get?_of_lt (show k - 1 < l.length by omega)), Option.bind_some, cell_c, asI_c, hp, Option.any_some]
    simp only [show ((k : Int) < l.length) by omega, decide_true, if_true, idx_uIs (get?_of_lt hlt), Option.bind_some, cell_c, asI_c, wrap_sub1 ha, y55_is, toU_val, asB_c, y53_is]
    rw [hq]
    simp only [Option.bind_some, y53_is, toU_val, asI_c, hlit, wrap_succ (show k ≤ 1000000000 by omega), sErr]
    have hc : firstErr [if (!btw l[k] 0 (a - 1)) = true then 3 else 0, if ((prev l k).any fun y => decide (l[k] ≤ y)) = true then 13 else 0] = code a (prev l k) l[k] := by
      unfold code
      by_cases hb : btw l[k] 0 (a - 1) = true
      · by_cases hy : ((prev l k).any fun y => decide (l[k] ≤ y)) = true <;> simp [hb, hy, firstErr]
      · simp only [Bool.not_eq_true] at hb; simp [hb, firstErr]
    rw [hc]
    by_cases h0 : code a (prev l k) l[k] = 0
    · simp only [h0, decide_true, Bool.not_true, Bool.false_eq_true, if_false, if_true]
      exact ⟨i, h1⟩
    · simp only [h0, decide_false, Bool.not_false, if_true, if_false]
      exact ⟨k, rfl⟩
theorem y63_is {b : Bool} {a : Int} {l : List Int} (ha : btw a 0 300 = true) (hn : l.length ≤ 1000000) : ∃ i : Int, y63 M (uIs b l) a = some (.tup [uI i, uI (sErr a none l)]) := by
  obtain ⟨i, h⟩ := y63_1_is (M := M) (b := b) ha hn l.length 0 (by omega)
  rw [y63_eq]
  simp only [len_uIs, Option.bind_some]
  exact ⟨i, h⟩
/-- at the end of a list of checks: an index and an error, or on -/
def Goes (x : YRs) (e : Int) (y : YRs) : Prop := (e = 0 → x = y) ∧ (e ≠ 0 → ∃ i : Int, x = some (.tup [uI i, uI e]))
section
variable {a : Int} {b1 b2 b3 : Bool} {l : List Int} {es : List E4} {xs : List (Bool × List Int)} (ha : btw a 0 300 = true) (hl : l.length ≤ 1000000) (he : es.length ≤ 1000000) (hn : xs.length ≤ 1000000) (hx : ∀ x ∈ xs, x.2.length ≤ 1000000)
include ha
theorem y25_2_is (hn : xs.length ≤ 1000000) (hx : ∀ x ∈ xs, x.2.length ≤ 1000000) {a1 a2 a3 : U} : ∀ (d k : Nat), k + d = xs.length → ∃ i : Int, y25_2 M a a1 a2 a3 (uLs b3 xs) (xs.length : Int) (k : Int) = some (.tup [uI i, uI (lErr a (xs.drop k))]) := by
  intro d
  induction d with
  | zero =>
    intro k hk
    rw [y25_2_eq, List.drop_of_length_le (by omega)]
    exact ⟨0, by simp [show ¬ ((k : Int) < xs.length) by omega, lErr]⟩
  | succ d ih =>
    intro k hk
    have hlt : k < xs.length := by omega
    obtain ⟨i, h1⟩ := ih (k + 1) (by omega)
    obtain ⟨j, h2⟩ := y63_is (M := M) (b := xs[k].1) ha (hx _ (List.getElem_mem hlt))
    rw [y25_2_eq, List.drop_eq_getElem_cons hlt]
    simp only [show ((k : Int) < xs.length) by omega, decide_true, if_true, idx_uLs (get?_of_lt hlt), Option.bind_some, cell_uIs, h2, asTup_tup, List.getElem?_cons_zero, List.getElem?_cons_succ, asI_c, wrap_succ (show k ≤ 1000000000 by omega), lErr]
    by_cases h0 : sErr a none xs[k].2 = 0
    · simp only [h0, decide_true, Bool.not_true, Bool.false_eq_true, if_false, if_true]
      exact ⟨i, h1⟩
    · simp only [h0, decide_false, Bool.not_false, if_true, if_false]
      exact ⟨k, rfl⟩
theorem y25_1_is (he : es.length ≤ 1000000) {a1 a3 : U} : ∀ (d k : Nat), k + d = es.length → Goes (y25_1 M a a1 (uEs b2 es) (uLs b3 xs) (uEs b2 es) (es.length : Int) (k : Int)) (eAll a (es.drop k)) (y25_2 M a a1 (uEs b2 es) (uLs b3 xs) (uLs b3 xs) (xs.length : Int) 0) := by
  intro d
  induction d with
  | zero =>
    intro k hk
    rw [y25_1_eq, List.drop_of_length_le (by omega)]
    simp only [show ¬ ((k : Int) < es.length) by omega, decide_false, Bool.false_eq_true, if_false, len_uLs, Option.bind_some, eAll_nil]
    exact ⟨fun _ => rfl, fun h => absurd rfl h⟩
  | succ d ih =>
    intro k hk
    have hlt : k < es.length := by omega
    obtain ⟨f, f0, f1, f2, f3, f4⟩ := struct_uE es[k]
    have ih' := ih (k + 1) (by omega)
    rw [y25_1_eq, List.drop_eq_getElem_cons hlt]
    simp only [show ((k : Int) < es.length) by omega, decide_true, if_true, idx_uEs (get?_of_lt hlt), Option.bind_some, f0, f1, f2, f3, f4, i_uI, wrap_sub1 ha, y55_is, toU_val, asB_c, wrap_succ (show k ≤ 1000000000 by omega), eAll_cons]
    cases h1 : btw es[k].f 0 (a - 1) with
    | false => simp only [Bool.not_false, if_true, Option.bind_some, Bool.true_eq_false, if_false, Bool.false_and, Bool.false_eq_true]; exact ⟨fun h => (by cases h), fun _ => ⟨k, rfl⟩⟩
    | true =>
      cases h2 : btw es[k].t 0 (a - 1) with
      | false => simp only [Bool.not_true, Bool.not_false, if_true, Option.bind_some, Bool.true_eq_false, if_false, Bool.true_and, Bool.false_and, Bool.false_eq_true]; exact ⟨fun h => (by cases h), fun _ => ⟨k, rfl⟩⟩
      | true =>
        cases h3 : btw es[k].n 0 4095 with
        | false => simp only [Bool.not_true, Bool.not_false, if_true, Option.bind_some, Bool.true_eq_false, if_false, Bool.true_and, Bool.false_and, Bool.false_eq_true]; exact ⟨fun h => (by cases h), fun _ => ⟨k, rfl⟩⟩
        | true =>
          cases h4 : btw es[k].v 0 4095 with
          | false => simp only [Bool.not_true, Bool.not_false, if_true, Option.bind_some, Bool.true_eq_false, if_false, Bool.true_and, Bool.false_and, Bool.false_eq_true]; exact ⟨fun h => (by cases h), fun _ => ⟨k, rfl⟩⟩
          | true => simp only [Bool.not_true, if_true, Option.bind_some, Bool.true_and, Bool.false_eq_true, if_false]; exact ih'
theorem y27_4_is (hn : xs.length ≤ 1000000) (hx : ∀ x ∈ xs, x.2.length ≤ 1000000) {a1 a2 : U} {i : Nat} (hi : i < xs.length) : ∀ (d k : Nat), k + d = xs[i].2.length → Goes (y27_4 M a a1 a2 (uLs b3 xs) (i : Int) (k : Int)) (sErr a (prev xs[i].2 k) (xs[i].2.drop k)) (y27_3 M a a1 a2 (uLs b3 xs) ((i + 1 : Nat) : Int)) := by
  have hxi := hx _ (List.getElem_mem hi)
  intro d
  induction d with
  | zero =>
    intro k hk
    rw [y27_4_eq, List.drop_of_length_le (by omega)]
    simp only [idx_uLs (get?_of_lt hi), Option.bind_some, cell_uIs, len_uIs, show ¬ ((k : Int) < xs[i].2.length) by omega, decide_false, Bool.false_eq_true, if_false, wrap_succ (show i ≤ 1000000000 by omega), sErr]
    exact ⟨fun _ => rfl, fun h => absurd rfl h⟩
  | succ d ih =>
    intro k hk
    have hlt : k < xs[i].2.length := by omega
    have ih' := ih (k + 1) (by omega)
    rw [prev_succ hlt] at ih'
    rw [y27_4_eq, List.drop_eq_getElem_cons hlt]
    simp only [idx_uLs (get?_of_lt hi), Option.bind_some, cell_uIs, len_uIs, show ((k : Int) < xs[i].2.length) by omega, decide_true, if_true, y65_is (b := xs[i].1) ha hxi hlt, toU_val, asI_c, wrap_succ (show k ≤ 1000000000 by omega), sErr]
    by_cases h0 : code a (prev xs[i].2 k) xs[i].2[k] = 0
    · simp only [h0, decide_true, Bool.not_true, Bool.false_eq_true, if_false, if_true]
      exact ih'
    · simp only [h0, decide_false, Bool.not_false, if_true, if_false]
      exact ⟨fun h => absurd h h0, fun _ => ⟨i, rfl⟩⟩
theorem y27_3_is (hn : xs.length ≤ 1000000) (hx : ∀ x ∈ xs, x.2.length ≤ 1000000) {a1 a2 : U} : ∀ (d k : Nat), k + d = xs.length → ∃ i : Int, y27_3 M a a1 a2 (uLs b3 xs) (k : Int) = some (.tup [uI i, uI (lErr a (xs.drop k))]) := by
  intro d
  induction d with
  | zero =>
    intro k hk
    rw [y27_3_eq, List.drop_of_length_le (by omega)]
    exact ⟨0, by simp [show ¬ (k < xs.length) by omega, lErr]⟩
  | succ d ih =>
    intro k hk
    have hlt : k < xs.length := by omega
    obtain ⟨i, h1⟩ := ih (k + 1) (by omega)
    have h2 := y27_4_is (M := M) (b3 := b3) (a1 := a1) (a2 := a2) ha hn hx hlt xs[k].2.length 0 (by omega)
    rw [List.drop_zero] at h2
    rw [y27_3_eq, List.drop_eq_getElem_cons hlt]
    simp only [len_uLs, Option.bind_some, show ((k : Int) < xs.length) by omega, decide_true, if_true, lErr]
    by_cases h0 : sErr a none xs[k].2 = 0
    · rw [if_pos h0]
      refine ⟨i, ?_⟩
      have := h2.1 h0
      rw [show ((0 : Nat) : Int) = 0 from rfl] at this
      rw [this]; exact h1
    · rw [if_neg h0]
      exact h2.2 h0
theorem y27_2_is (he : es.length ≤ 1000000) {a1 : U} : ∀ (d k : Nat), k + d = es.length → Goes (y27_2 M a a1 (uEs b2 es) (uLs b3 xs) (k : Int)) (eAll a (es.drop k)) (y27_3 M a a1 (uEs b2 es) (uLs b3 xs) 0) := by
  intro d
  induction d with
  | zero =>
    intro k hk
    rw [y27_2_eq, List.drop_of_length_le (by omega)]
    simp only [len_uEs, Option.bind_some, show ¬ ((k : Int) < es.length) by omega, decide_false, Bool.false_eq_true, if_false, eAll_nil]
    exact ⟨fun _ => rfl, fun h => absurd rfl h⟩
  | succ d ih =>
    intro k hk
    have hlt : k < es.length := by omega
    obtain ⟨f, f0, f1, f2, f3, f4⟩ := struct_uE es[k]
    have ih' := ih (k + 1) (by omega)
    rw [y27_2_eq, List.drop_eq_getElem_cons hlt]
    simp only [len_uEs, Option.bind_some, show ((k : Int) < es.length) by omega, decide_true, if_true, idx_uEs (get?_of_lt hlt), f0, f1, f2, f3, f4, i_uI, wrap_sub1 ha, y41_is, toU_val, asB_c, wrap_succ (show k ≤ 1000000000 by omega), eAll_cons]
    cases h1 : btw es[k].f 0 (a - 1) with
    | false => simp only [Bool.not_false, if_true, Option.bind_some, Bool.true_eq_false, if_false, Bool.false_and, Bool.false_eq_true]; exact ⟨fun h => (by cases h), fun _ => ⟨k, rfl⟩⟩
    | true =>
      cases h2 : btw es[k].t 0 (a - 1) with
      | false => simp only [Bool.not_true, Bool.not_false, if_true, Option.bind_some, Bool.true_eq_false, if_false, Bool.true_and, Bool.false_and, Bool.false_eq_true]; exact ⟨fun h => (by cases h), fun _ => ⟨k, rfl⟩⟩
      | true =>
        cases h3 : btw es[k].n 0 4095 with
        | false => simp only [Bool.not_true, Bool.not_false, if_true, Option.bind_some, Bool.true_eq_false, if_false, Bool.true_and, Bool.false_and, Bool.false_eq_true]; exact ⟨fun h => (by cases h), fun _ => ⟨k, rfl⟩⟩
        | true =>
          cases h4 : btw es[k].v 0 4095 with
          | false => simp only [Bool.not_true, Bool.not_false, if_true, Option.bind_some, Bool.true_eq_false, if_false, Bool.true_and, Bool.false_and, Bool.false_eq_true]; exact ⟨fun h => (by cases h), fun _ => ⟨k, rfl⟩⟩
          | true => simp only [Bool.not_true, if_true, Option.bind_some, Bool.true_and, Bool.false_eq_true, if_false]; exact ih'
theorem y27_1_is (hl : l.length ≤ 1000000) : ∀ (d k : Nat), k + d = l.length → Goes (y27_1 M a (uIs b1 l) (uEs b2 es) (uLs b3 xs) (k : Int)) (sErr a (prev l k) (l.drop k)) (y27_2 M a (uIs b1 l) (uEs b2 es) (uLs b3 xs) 0) := by
  intro d
  induction d with
  | zero =>
    intro k hk
    rw [y27_1_eq, List.drop_of_length_le (by omega)]
    simp only [len_uIs, Option.bind_some, show ¬ ((k : Int) < l.length) by omega, decide_false, Bool.false_eq_true, if_false, sErr]
    exact ⟨fun _ => rfl, fun h => absurd rfl h⟩
  | succ d ih =>
    intro k hk
    have hlt : k < l.length := by omega
    have ih' := ih (k + 1) (by omega)
    rw [prev_succ hlt] at ih'
    rw [y27_1_eq, List.drop_eq_getElem_cons hlt]
    simp only [len_uIs, Option.bind_some, show ((k : Int) < l.length) by omega, decide_true, if_true, y65_is (b := b1) ha hl hlt, toU_val, asI_c, wrap_succ (show k ≤ 1000000000 by omega), sErr]
    by_cases h0 : code a (prev l k) l[k] = 0
    · simp only [h0, decide_true, Bool.not_true, Bool.false_eq_true, if_false, if_true]
      exact ih'
    · simp only [h0, decide_false, Bool.not_false, if_true, if_false]
      exact ⟨fun h => absurd h h0, fun _ => ⟨k, rfl⟩⟩
end
section
variable {a : Int} {b1 b2 b3 : Bool} {l : List Int} {es : List E4} {xs : List (Bool × List Int)} (hl : l.length ≤ 1000000) (he : es.length ≤ 1000000) (hn : xs.length ≤ 1000000) (hx : ∀ x ∈ xs, x.2.length ≤ 1000000)
include hl he hn hx
theorem y27_is : ∃ i : Int, y27 M a (uIs b1 l) (uEs b2 es) (uLs b3 xs) = some (.tup [uI i, uI (aErr a l es xs)]) := by
  rw [y27_eq]
  simp only [y41_is, Option.bind_some, toU_val, asB_c, len_uEs, len_uLs]
  unfold aErr
  by_cases ha : btw a 0 300 = true
  · have hq : (if (decide (6000 < (es.length : Int))) = false then some (decide (8 < (xs.length : Int))) else some (decide (6000 < (es.length : Int)))) = some (decide (6000 < es.length ∨ 8 < xs.length)) := by
      by_cases h1 : 6000 < es.length
      · have : (6000 : Int) < es.length := by omega
        simp [h1, this]
      · have : ¬ (6000 : Int) < es.length := by omega
        by_cases h2 : 8 < xs.length
        · have : (8 : Int) < xs.length := by omega
          simp [h1, h2, this]
        · have h3 : ¬ (8 : Int) < xs.length := by omega
          simp [h1, h2, this, h3]
    rw [hq]
    simp only [ha, Bool.not_true, Bool.false_eq_true, if_false, if_true, Option.bind_some, decide_eq_true_eq]
    by_cases hlg : 6000 < es.length ∨ 8 < xs.length
    · rw [if_pos hlg, if_pos hlg]; exact ⟨0, rfl⟩
    · rw [if_neg hlg, if_neg hlg]
      have h1 := y27_1_is (M := M) (b1 := b1) (b2 := b2) (b3 := b3) (es := es) (xs := xs) ha hl l.length 0 (by omega)
      rw [List.drop_zero, show prev l 0 = none from rfl, show ((0 : Nat) : Int) = 0 from rfl] at h1
      by_cases h0 : sErr a none l = 0
      · rw [if_pos h0, h1.1 h0]
        have h2 := y27_2_is (M := M) (b2 := b2) (b3 := b3) (es := es) (xs := xs) (a1 := uIs b1 l) ha he es.length 0 (by omega)
        rw [List.drop_zero, show ((0 : Nat) : Int) = 0 from rfl] at h2
        have he3 : eAll a es = if es.all (eOK a) = true then 0 else 3 := rfl
        rw [he3] at h2
        by_cases h3 : es.all (eOK a) = true
        · rw [if_pos h3] at h2 ⊢
          rw [h2.1 rfl]
          have h4 := y27_3_is (M := M) (b3 := b3) (xs := xs) (a1 := uIs b1 l) (a2 := uEs b2 es) ha hn hx xs.length 0 (by omega)
          rw [List.drop_zero, show ((0 : Nat) : Int) = 0 from rfl] at h4
          exact h4
        · rw [if_neg h3] at h2 ⊢
          exact h2.2 (by decide)
      · rw [if_neg h0]; exact h1.2 h0
  · simp only [Bool.not_eq_true] at ha
    simp only [ha, Bool.not_false, if_true, Bool.false_eq_true, if_false]
    exact ⟨0, rfl⟩
theorem y12_is : y12 M a (uIs b1 l) (uEs b2 es) (uLs b3 xs) = some (.val (uI (aErr a l es xs))) := by
  obtain ⟨i, h⟩ := y27_is (M := M) (a := a) (b1 := b1) (b2 := b2) (b3 := b3) hl he hn hx
  rw [y12_eq]
  simp [h]
theorem y25_is : ∃ i : Int, y25 M a (uIs b1 l) (uEs b2 es) (uLs b3 xs) = some (.tup [uI i, uI (aErr a l es xs)]) := by
  rw [y25_eq]
  have hq : (if (decide (6000 < (es.length : Int))) = false then some (decide (8 < (xs.length : Int))) else some (decide (6000 < (es.length : Int)))) = some (decide (6000 < es.length ∨ 8 < xs.length)) := by
    by_cases h1 : 6000 < es.length
    · have : (6000 : Int) < es.length := by omega
      simp [h1, this]
    · have : ¬ (6000 : Int) < es.length := by omega
      by_cases h2 : 8 < xs.length
      · have : (8 : Int) < xs.length := by omega
        simp [h1, h2, this]
      · have h3 : ¬ (8 : Int) < xs.length := by omega
        simp [h1, h2, this, h3]
  have hlit := fun a b => y52_lit (M := M) [a, b] (by simp)
  simp only [List.map_cons, List.map_nil, uI] at hlit
  simp only [len_uEs, len_uLs, Option.bind_some]
  rw [hq]
  simp only [Option.bind_some, y55_is, toU_val, asB_c, y53_is, asI_c, hlit, decide_eq_true_eq]
  unfold aErr
  by_cases ha : btw a 0 300 = true
  · by_cases hlg : 6000 < es.length ∨ 8 < xs.length
    · simp only [ha, Bool.not_true, Bool.false_eq_true, if_false, if_pos hlg, firstErr, if_true]
      exact ⟨0, rfl⟩
    · simp only [ha, Bool.not_true, Bool.false_eq_true, if_false, if_neg hlg, firstErr, if_true, decide_true]
      obtain ⟨i, h1⟩ := y63_is (M := M) (b := b1) ha hl
      simp only [h1, Option.bind_some, asTup_tup, List.getElem?_cons_zero, List.getElem?_cons_succ, asI_c]
      by_cases h0 : sErr a none l = 0
      · simp only [h0, decide_true, Bool.not_true, Bool.false_eq_true, if_false, if_true]
        have h2 := y25_1_is (M := M) (b2 := b2) (b3 := b3) (es := es) (xs := xs) (a1 := uIs b1 l) (a3 := uLs b3 xs) ha he es.length 0 (by omega)
        rw [List.drop_zero, show ((0 : Nat) : Int) = 0 from rfl] at h2
        have he3 : eAll a es = if es.all (eOK a) = true then 0 else 3 := rfl
        rw [he3] at h2
        by_cases h3 : es.all (eOK a) = true
        · rw [if_pos h3] at h2 ⊢
          rw [h2.1 rfl]
          have h4 := y25_2_is (M := M) (b3 := b3) (xs := xs) (a1 := uIs b1 l) (a2 := uEs b2 es) (a3 := uLs b3 xs) ha hn hx xs.length 0 (by omega)
          rw [List.drop_zero, show ((0 : Nat) : Int) = 0 from rfl] at h4
          exact h4
        · rw [if_neg h3] at h2 ⊢
          exact h2.2 (by decide)
      · simp only [h0, decide_false, Bool.not_false, if_true, if_false]
        exact ⟨i, rfl⟩
  · simp only [Bool.not_eq_true] at ha
    simp only [ha, Bool.not_false, if_true, Bool.false_eq_true, if_false, firstErr]
    exact ⟨0, rfl⟩
theorem y36_is : y36 M a (uIs b1 l) (uEs b2 es) (uLs b3 xs) = some (.val (uI (aErr a l es xs))) := by
  obtain ⟨i, h⟩ := y25_is (M := M) (a := a) (b1 := b1) (b2 := b2) (b3 := b3) hl he hn hx
  rw [y36_eq]
  simp [h]
theorem y45_is {b4 b5 : Bool} {w v : List Int} (hw : w.length + v.length ≤ 1000000) : y45 M a (uIs b1 l) (uEs b2 es) (uLs b3 xs) (uIs b4 w) (uIs b5 v) = some (.val (uI (if aErr a l es xs = 0 then wErr w v else aErr a l es xs))) := by
  rw [y45_eq]
  have hlit := fun a b => y52_lit (M := M) [a, b] (by simp)
  simp only [List.map_cons, List.map_nil, uI] at hlit
  simp only [y36_is hl he hn hx, y84_is hw, Option.bind_some, toU_val, asI_c, hlit, firstErr]
  by_cases h : aErr a l es xs = 0
  · by_cases h2 : wErr w v = 0 <;> simp [h, h2]
  · simp [h]
end
end Go.Proofs.Ytglkhoamnmiolaa.R
