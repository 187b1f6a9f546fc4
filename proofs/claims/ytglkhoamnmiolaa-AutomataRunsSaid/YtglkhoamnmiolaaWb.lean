/-
  CHAPTER 14: copies, letters, which automata and words are right.
-/
import Derived.Test.YtglkhoamnmiolaaWa
namespace Go.Proofs.Ytglkhoamnmiolaa.R
open Go Go.Proofs.Ytglkhoamnmiolaa.Vm
set_option linter.unusedVariables false
set_option linter.unusedSimpArgs false
variable {M : YM}
/-! ### copies -/
theorem scals_ints (l : List Int) : scals (l.map uI) = true := by
  induction l with
  | nil => rfl
  | cons x l ih => simp only [List.map_cons, scals, ih, Bool.and_true]; rfl
theorem app_new {sz : Nat} {xs : List U} (h : ∀ x ∈ xs, x.size = sz) (hn : xs.length ≤ 1000000) : Sx.app (⟨true, sz, []⟩ : Sx) sz xs = some ⟨true, sz, xs⟩ := by
  unfold Sx.app
  rw [if_pos]
  · simp
  · refine ⟨.inr rfl, List.all_eq_true.2 fun x hx => by simp [h x hx], ?_⟩
    show _ ≤ _
    simp; omega
theorem y38_is {b : Bool} {l : List Int} (hn : l.length ≤ 1000000) : y38 M (uIs b l) = some (.sl ⟨true, 1, l.map uI⟩) := by
  rw [y38_eq]
  simp only [uIs, U.asL, Option.bind_some]
  rw [app_new (by intro x hx; obtain ⟨n, _, rfl⟩ := List.mem_map.1 hx; rfl) (by simpa using hn)]
  simp only [Option.bind_some, scals_ints, if_true]
/-- copied lists -/
def cp (xs : List (Bool × List Int)) : List (Bool × List Int) := xs.map fun x => (true, x.2)
theorem y39_1_is {b : Bool} {xs : List (Bool × List Int)} (hn : xs.length ≤ 1000000) (hx : ∀ x ∈ xs, x.2.length ≤ 1000000) : ∀ (d k : Nat) (out : Sx), k + d = xs.length → out.es = (cp (xs.take k)).map (fun x => uIs x.1 x.2) → (out.b = false → out.es = []) → (out.b = true → out.sz = 1) →
    ∃ b', y39_1 M (uLs b xs) (k : Int) out = some (.sl ⟨b', if b' = true then 1 else out.sz, (cp xs).map fun x => uIs x.1 x.2⟩) ∧ (b' = false → xs = [] ∨ out.b = false) := by
  intro d
  induction d with
  | zero =>
    intro k out hk ho hb hz
    rw [y39_1_eq]
    simp only [len_uLs, Option.bind_some, show ¬ ((k : Int) < xs.length) by omega, decide_false, Bool.false_eq_true, if_false]
    rw [List.take_of_length_le (by omega)] at ho
    obtain ⟨ob, osz, oes⟩ := out
    simp only at ho hb hz ⊢
    subst ho
    cases ob with
    | true => exact ⟨true, by simp [hz rfl], fun h => by cases h⟩
    | false => exact ⟨false, by simp, fun _ => .inr rfl⟩
  | succ d ih =>
    intro k out hk ho hb hz
    have hlt : k < xs.length := by omega
    rw [y39_1_eq]
    simp only [len_uLs, Option.bind_some, show ((k : Int) < xs.length) by omega, decide_true, if_true, idx_uLs (get?_of_lt hlt), cell_uIs, y38_is (hx _ (List.getElem_mem hlt)), asSl_sl, wrap_succ (show k ≤ 1000000000 by omega)]
    have happ : Sx.app out 1 [Sx.fz ⟨true, 1, xs[k].2.map uI⟩] = some ⟨true, 1, out.es ++ [uIs true xs[k].2]⟩ := by
      unfold Sx.app
      have hlen : out.es.length = k := by rw [ho]; simp [cp]; omega
      rw [if_pos]
      · simp [Sx.fz, uIs]
      · refine ⟨?_, rfl, ?_⟩
        · cases hob : out.b with
          | false => exact .inl rfl
          | true => exact .inr (hz hob)
        · show _ ≤ _
          rw [hlen]; simp; omega
    rw [happ]
    simp only [Option.bind_some]
    obtain ⟨b', h1, h2⟩ := ih (k + 1) ⟨true, 1, out.es ++ [uIs true xs[k].2]⟩ (by omega) (by
      simp only [ho, List.take_succ_eq_append_getElem hlt, cp, List.map_append, List.map_cons, List.map_nil]) (fun h => by cases h) (fun _ => rfl)
    cases b' with
    | true => exact ⟨true, by simpa using h1, fun h => by cases h⟩
    | false => rcases h2 rfl with h | h
               · rw [h] at hlt; simp at hlt
               · cases h
theorem y39_is {b : Bool} {xs : List (Bool × List Int)} (hn : xs.length ≤ 1000000) (hx : ∀ x ∈ xs, x.2.length ≤ 1000000) : ∃ s, y39 M (uLs b xs) = some (.sl s) ∧ ∃ b', s.fz = uLs b' (cp xs) := by
  obtain ⟨b', h, _⟩ := y39_1_is (M := M) (b := b) hn hx xs.length 0 ⟨false, 0, []⟩ (by omega) (by simp [cp]) (fun _ => rfl) (fun h => by cases h)
  rw [y39_eq]
  exact ⟨_, h, b', rfl⟩
theorem y11_is {b1 b2 b3 : Bool} {a : Int} {l : List Int} {es : List E4} {xs : List (Bool × List Int)} (hl : l.length ≤ 1000000) (he : es.length ≤ 1000000) (hn : xs.length ≤ 1000000) (hx : ∀ x ∈ xs, x.2.length ≤ 1000000) :
    ∃ b', y11 M a (uIs b1 l) (uEs b2 es) (uLs b3 xs) = some (.val (.st [uI a, uIs true l, uEs true es, uLs b' (cp xs)])) := by
  obtain ⟨s, h1, b', h2⟩ := y39_is (M := M) (b := b3) hn hx
  rw [y11_eq]
  simp only [y38_is hl, Option.bind_some, asSl_sl, uEs, U.asL]
  rw [app_new (by intro x hx; obtain ⟨n, _, rfl⟩ := List.mem_map.1 hx; rfl) (by simpa using he)]
  simp only [Option.bind_some, h1, asSl_sl, h2]
  exact ⟨b', rfl⟩
theorem y19_is {b1 b2 : Bool} {l r : List Int} (hl : l.length ≤ 1000000) (hr : r.length ≤ 1000000) : y19 M (uIs b1 l) (uIs b2 r) = some (.val (.st [uIs true l, uIs true r])) := by
  rw [y19_eq]
  simp only [y38_is hl, y38_is hr, Option.bind_some, asSl_sl]
  rfl
theorem y24_is {b1 b2 : Bool} {l r : List Int} (hl : l.length ≤ 1000000) (hr : r.length ≤ 1000000) : y24 M (uIs b1 l) (uIs b2 r) = some (.val (.st [uIs true l, uIs true r])) := by
  rw [y24_eq]
  simp only [y38_is hl, y38_is hr, Option.bind_some, asSl_sl]
  rfl
/-! ### places -/
def at0 (l : List Int) (i : Nat) : Int := l.getD i 0
theorem idx_at {b : Bool} {l : List Int} {k : Nat} (h : k < l.length) : U.idx 1 (uIs b l) (k : Int) = some (uI (at0 l k)) := by
  rw [idx_uIs (get?_of_lt h)]
  simp [at0, h]
theorem at0_append {l r : List Int} {i : Nat} : at0 (l ++ r) i = if i < l.length then at0 l i else at0 r (i - l.length) := by
  unfold at0
  by_cases h : i < l.length
  · simp [h, List.getElem?_append_left h]
  · simp [h, List.getElem?_append_right (show l.length ≤ i by omega)]
theorem y48_is {b1 b2 : Bool} {l r : List Int} {i : Nat} (hi : i < l.length + r.length) (hn : l.length + r.length ≤ 1000000) : y48 M (uIs b1 l) (uIs b2 r) (i : Int) = some (.val (uI (at0 (l ++ r) i))) := by
  rw [y48_eq, at0_append]
  simp only [len_uIs, Option.bind_some]
  by_cases h : i < l.length
  · simp only [show ((i : Int) < l.length) by omega, decide_true, if_true, idx_at h, Option.bind_some, cell_c, asI_c, h]
  · have hw : IntKind.wrap .i64 ((i : Int) - (l.length : Int)) = ((i - l.length : Nat) : Int) := by rw [wrap_in (by omega) (by omega)]; omega
    simp only [show ¬ ((i : Int) < l.length) by omega, decide_false, Bool.false_eq_true, if_false, hw, idx_at (b := b2) (l := r) (k := i - l.length) (by omega), Option.bind_some, cell_c, asI_c, h]
theorem y51_is {b1 b2 : Bool} {l r : List Int} {i : Nat} (hi : i < l.length + r.length) (hn : l.length + r.length ≤ 1000000) : y51 M (uIs b1 l) (uIs b2 r) (i : Int) = some (.val (uI (((if i + 1 < l.length + r.length then i + 1 else l.length : Nat) : Nat) : Int))) := by
  rw [y51_eq]
  have hw : IntKind.wrap .i64 ((l.length : Int) + (r.length : Int)) = ((l.length + r.length : Nat) : Int) := by rw [wrap_in (by omega) (by omega)]; simp
  simp only [len_uIs, Option.bind_some, wrap_succ (show i ≤ 1000000000 by omega), hw]
  by_cases h : i + 1 < l.length + r.length
  · simp only [show (((i + 1 : Nat) : Int) < ((l.length + r.length : Nat) : Int)) by omega, decide_true, if_true, h]
  · simp only [show ¬ (((i + 1 : Nat) : Int) < ((l.length + r.length : Nat) : Int)) by omega, decide_false, Bool.false_eq_true, if_false, h]
/-- the letter at a place of a word -/
def letr (l r : List Int) (i : Nat) : Int := if i < l.length then at0 l i else at0 r ((i - l.length) % r.length)
theorem tmod_nat (a b : Nat) : Int.tmod (a : Int) (b : Int) = ((a % b : Nat) : Int) := by
  rw [Int.tmod_eq_emod_of_nonneg (by omega)]; simp
theorem y42_is {b1 b2 : Bool} {l r : List Int} {i : Nat} (hr : 0 < r.length) (hn : l.length + r.length ≤ 1000000) (hi : i ≤ 1000000) : y42 M (uIs b1 l) (uIs b2 r) (i : Int) = some (.val (uI (letr l r i))) := by
  rw [y42_eq, letr]
  simp only [len_uIs, Option.bind_some]
  by_cases h : i < l.length
  · simp only [show ((i : Int) < l.length) by omega, decide_true, if_true, idx_at h, Option.bind_some, cell_c, asI_c, h]
  · have hw : IntKind.wrap .i64 ((i : Int) - (l.length : Int)) = ((i - l.length : Nat) : Int) := by rw [wrap_in (by omega) (by omega)]; omega
    simp only [show ¬ ((i : Int) < l.length) by omega, decide_false, Bool.false_eq_true, if_false, show ¬ ((r.length : Int) = 0) by omega, hw, tmod_nat, idx_at (b := b2) (l := r) (k := (i - l.length) % r.length) (Nat.mod_lt _ hr), Option.bind_some, cell_c, asI_c, h]
theorem y57_is {b1 b2 : Bool} {l r : List Int} {i : Nat} (hr : 0 < r.length) (hn : l.length + r.length ≤ 1000000) (hi : i ≤ 1000000) : y57 M (uIs b1 l) (uIs b2 r) (i : Int) = some (.val (uI (letr l r i))) := by
  rw [y57_eq, letr]
  simp only [len_uIs, Option.bind_some]
  by_cases h : i < l.length
  · simp only [show ((i : Int) < l.length) by omega, decide_true, if_true, idx_at h, Option.bind_some, cell_c, asI_c, h]
  · have hw : IntKind.wrap .i64 ((i : Int) - (l.length : Int)) = ((i - l.length : Nat) : Int) := by rw [wrap_in (by omega) (by omega)]; omega
    simp only [show ¬ ((i : Int) < l.length) by omega, decide_false, Bool.false_eq_true, if_false, show ¬ ((r.length : Int) = 0) by omega, hw, tmod_nat, idx_at (b := b2) (l := r) (k := (i - l.length) % r.length) (Nat.mod_lt _ hr), Option.bind_some, cell_c, asI_c, h]
theorem letr_append {l r : List Int} {i : Nat} (hi : i < l.length + r.length) : letr l r i = at0 (l ++ r) i := by
  rw [letr, at0_append]
  by_cases h : i < l.length
  · simp [h]
  · simp only [h, if_false]; rw [Nat.mod_eq_of_lt (by omega)]

/-! ### which words are right -/
def ltr (n : Int) : Bool := btw n 0 4095
def wErr (l r : List Int) : Int := if r.length = 0 then 1 else if 60 < l.length + r.length then 2 else if (l ++ r).all ltr = true then 0 else 3
theorem y84_is {b1 b2 : Bool} {l r : List Int} (hn : l.length + r.length ≤ 1000000) : y84 M (uIs b1 l) (uIs b2 r) = some (.val (uI (wErr l r))) := by
  rw [y84_eq]
  have hw : IntKind.wrap .i64 ((l.length : Int) + (r.length : Int)) = ((l.length + r.length : Nat) : Int) := by rw [wrap_in (by omega) (by omega)]; simp
  have hp : ∀ n, ycall M 106 ([] ++ [uI n] ++ []) = some (.val (.c (.bool (!ltr n)))) := fun n => y106_is n
  have hlit := fun a b => y52_lit (M := M) [a, b] (by simp)
  simp only [List.map_cons, List.map_nil, uI] at hlit
  simp only [len_uIs, Option.bind_some, y108_is, toU_val, asI_c, hw, hlit, y61_is hp (show l.length ≤ 1000000 by omega), y61_is hp (show r.length ≤ 1000000 by omega), asB_c, firstErr]
  unfold wErr
  by_cases h1 : r.length = 0
  · simp [h1]
  · by_cases h2 : 60 < l.length + r.length
    · have : (60 : Int) < ((l.length + r.length : Nat) : Int) := by omega
      simp only [show ¬ ((r.length : Int) = 0) by omega, decide_false, Bool.false_eq_true, if_false, if_true, this, decide_true, h1, h2]
      simp
    · have : ¬ (60 : Int) < ((l.length + r.length : Nat) : Int) := by omega
      simp only [show ¬ ((r.length : Int) = 0) by omega, decide_false, Bool.false_eq_true, if_false, if_true, this, h1, h2, decide_true, Bool.not_true, List.all_append, Bool.and_eq_true]
      have hl : l.any (fun n => !ltr n) = !l.all ltr := by rw [List.any_eq_not_all_not]; simp
      have hr : r.any (fun n => !ltr n) = !r.all ltr := by rw [List.any_eq_not_all_not]; simp
      rw [hl, hr]
      cases l.all ltr <;> cases r.all ltr <;> simp
theorem y15_1_is {b1 b2 : Bool} {l r : List Int} (hr : 0 < r.length) (hn : l.length + r.length ≤ 1000000) : ∀ (d k : Nat), k + d = l.length + r.length → y15_1 M (uIs b1 l) (uIs b2 r) (k : Int) = some (.val (uI (if ((l ++ r).drop k).all ltr = true then 0 else 3))) := by
  intro d
  have hw : IntKind.wrap .i64 ((l.length : Int) + (r.length : Int)) = ((l.length + r.length : Nat) : Int) := by rw [wrap_in (by omega) (by omega)]; simp
  induction d with
  | zero =>
    intro k hk
    rw [y15_1_eq, List.drop_of_length_le (by simp; omega)]
    simp only [len_uIs, Option.bind_some, hw, show ¬ ((k : Int) < ((l.length + r.length : Nat) : Int)) by omega, decide_false, Bool.false_eq_true, if_false, List.all_nil, if_true]
  | succ d ih =>
    intro k hk
    have hlt : k < (l ++ r).length := by simp; omega
    have hat : letr l r k = (l ++ r)[k] := by rw [letr_append (by omega)]; unfold at0; rw [List.getD_eq_getElem?_getD, List.getElem?_eq_getElem hlt]; rfl
    rw [y15_1_eq, List.drop_eq_getElem_cons hlt]
    simp only [len_uIs, Option.bind_some, hw, show ((k : Int) < ((l.length + r.length : Nat) : Int)) by omega, decide_true, if_true, y42_is (b1 := b1) (b2 := b2) (l := l) hr hn (show k ≤ 1000000 by omega), toU_val, asI_c, y41_is, asB_c, wrap_succ (show k ≤ 1000000000 by omega), ih (k + 1) (by omega), hat, List.all_cons]
    have : btw (l ++ r)[k] 0 4095 = ltr (l ++ r)[k] := rfl
    rw [this]
    by_cases hl : ltr (l ++ r)[k] = true
    · simp only [hl, Bool.not_true, Bool.false_eq_true, if_false, Bool.true_and]
    · simp only [Bool.not_eq_true] at hl; simp only [hl, Bool.not_false, if_true, Bool.false_and, Bool.false_eq_true, if_false]
theorem y15_is {b1 b2 : Bool} {l r : List Int} (hn : l.length + r.length ≤ 1000000) : y15 M (uIs b1 l) (uIs b2 r) = some (.val (uI (wErr l r))) := by
  rw [y15_eq]
  have hw : IntKind.wrap .i64 ((l.length : Int) + (r.length : Int)) = ((l.length + r.length : Nat) : Int) := by rw [wrap_in (by omega) (by omega)]; simp
  simp only [len_uIs, Option.bind_some, hw]
  unfold wErr
  by_cases h1 : r.length = 0
  · simp [h1]
  · have := y15_1_is (M := M) (b1 := b1) (b2 := b2) (l := l) (r := r) (by omega) hn (l.length + r.length) 0 (by omega)
    rw [show ((0 : Nat) : Int) = 0 from rfl, List.drop_zero] at this
    simp only [show ¬ ((r.length : Int) = 0) by omega, decide_false, Bool.false_eq_true, if_false, h1, this]
    by_cases h2 : 60 < l.length + r.length
    · have : (60 : Int) < ((l.length + r.length : Nat) : Int) := by omega
      simp only [this, h2, decide_true, if_true]
    · have : ¬ (60 : Int) < ((l.length + r.length : Nat) : Int) := by omega
      simp only [this, h2, decide_false, Bool.false_eq_true, if_false]
end Go.Proofs.Ytglkhoamnmiolaa.R
