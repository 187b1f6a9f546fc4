/-
  CHAPTER 14: which runs are right.
-/
import Derived.Test.YtglkhoamnmiolaaWd
namespace Go.Proofs.Ytglkhoamnmiolaa.R
open Go Go.Proofs.Ytglkhoamnmiolaa.Vm
set_option linter.unusedVariables false
set_option linter.unusedSimpArgs false
variable {M : YM}
def acc (xs : List (Bool × List Int)) (r1 : List Int) (k : Nat) : Bool := r1.any fun n => decide (n ∈ (xs.getD k (false, [])).2)
def pAc (xs : List (Bool × List Int)) (r1 : List Int) : Nat → Nat → Int × Int
  | 0, _ => (0, 0)
  | d + 1, k => if acc xs r1 k = true then pAc xs r1 d (k + 1) else (k, 25)
def goE (es : List E4) (all : List Int) (m : Nat) (w0 w1 : List Int) (k : Nat) : Bool := es.any (edge (at0 all k) (at0 all (if k + 1 < all.length then k + 1 else m)) (letr w0 w1 k))
def pEd (es : List E4) (all : List Int) (m : Nat) (w0 w1 : List Int) (z : Int × Int) : Nat → Nat → Int × Int
  | 0, _ => z
  | d + 1, k => if goE es all m w0 w1 k = true then pEd es all m w0 w1 z d (k + 1) else (k, 10)
def pSt (a : Int) (all : List Int) (z : Int × Int) : Nat → Nat → Int × Int
  | 0, _ => z
  | d + 1, k => if btw (at0 all k) 0 (a - 1) = true then pSt a all z d (k + 1) else (k, 3)
def res (p : Int × Int) : YRs := some (.tup [uI p.1, uI p.2])
def shapeBad (w0 w1 r0 r1 : List Int) : Bool := decide (r0.length < w0.length ∨ (r0.length - w0.length) % w1.length ≠ 0 ∨ r1.length % w1.length ≠ 0)
def chk (a : Int) (l : List Int) (es : List E4) (xs : List (Bool × List Int)) (w0 w1 r0 r1 : List Int) : Int × Int :=
  if aErr a l es xs = 0 then
    if wErr w0 w1 = 0 then
      if r1.length = 0 then (0, 1)
      else if 20000 < r0.length + r1.length then (0, 2)
      else if shapeBad w0 w1 r0 r1 = true then (0, 6)
      else pSt a (r0 ++ r1) (if at0 (r0 ++ r1) 0 ∈ l then pEd es (r0 ++ r1) r0.length w0 w1 (pAc xs r1 xs.length 0) (r0.length + r1.length) 0 else (0, 30)) (r0.length + r1.length) 0
    else (0, wErr w0 w1)
  else (0, aErr a l es xs)
theorem letr_ok {w0 w1 : List Int} {k : Nat} (h1 : 0 < w1.length) (h : (w0 ++ w1).all ltr = true) : btw (letr w0 w1 k) 0 4095 = true := by
  have hm : ∀ (l : List Int) (i : Nat), i < l.length → at0 l i ∈ l := by
    intro l i hi
    unfold at0
    rw [List.getD_eq_getElem?_getD, get?_of_lt hi]
    exact List.getElem_mem hi
  have : letr w0 w1 k ∈ w0 ++ w1 := by
    unfold letr
    split
    · rename_i hk; exact List.mem_append_left _ (hm _ _ hk)
    · exact List.mem_append_right _ (hm _ _ (Nat.mod_lt _ h1))
  exact List.all_eq_true.1 h _ this
section
variable {a : Int} {b1 b2 b3 b4 b5 b6 b7 : Bool} {l : List Int} {es : List E4} {xs : List (Bool × List Int)} {w0 w1 r0 r1 : List Int}
theorem aErr_btw (h : aErr a l es xs = 0) : btw a 0 300 = true ∧ es.all (eOK a) = true := by
  unfold aErr at h
  split at h
  · rename_i h1
    refine ⟨h1, ?_⟩
    split at h
    · cases h
    · split at h
      · split at h
        · assumption
        · cases h
      · rename_i h2; exact absurd h h2
  · cases h
theorem wErr_ok (h : wErr w0 w1 = 0) : 0 < w1.length ∧ (w0 ++ w1).all ltr = true ∧ w0.length + w1.length ≤ 60 := by
  unfold wErr at h
  split at h
  · cases h
  · split at h
    · cases h
    · split at h
      · rename_i h1 h2 h3; exact ⟨by omega, h3, by omega⟩
      · cases h
/-! ### the reference -/
theorem y22_4_is (hr : r0.length + r1.length ≤ 1000000) (hn : xs.length ≤ 1000000) (hx : ∀ x ∈ xs, x.2.length ≤ 1000000) {a1 a2 : U} {k : Nat} (hk : k < xs.length) : ∀ (d i : Nat) (m : Bool), i + d = r1.length → 
    y22_4 M a a1 a2 (uLs b3 xs) (uIs b6 r0) (uIs b7 r1) (k : Int) m (i : Int) = if (m || (r1.drop i).any fun n => decide (n ∈ (xs.getD k (false, [])).2)) = true then y22_3 M a a1 a2 (uLs b3 xs) (uIs b6 r0) (uIs b7 r1) ((k + 1 : Nat) : Int) else res (k, 25) := by
  have hxk : xs.getD k (false, []) = xs[k] := by rw [List.getD_eq_getElem?_getD, get?_of_lt hk]; rfl
  have hl := hx _ (List.getElem_mem hk)
  intro d
  induction d with
  | zero =>
    intro i m hi
    rw [y22_4_eq, List.drop_of_length_le (by omega)]
    simp only [len_uIs, Option.bind_some, show ¬ ((i : Int) < r1.length) by omega, decide_false, Bool.false_eq_true, if_false, List.any_nil, Bool.or_false, wrap_succ (show k ≤ 1000000000 by omega)]
    cases m <;> rfl
  | succ d ih =>
    intro i m hi
    have hlt : i < r1.length := by omega
    rw [y22_4_eq, List.drop_eq_getElem_cons hlt]
    simp only [len_uIs, Option.bind_some, show ((i : Int) < r1.length) by omega, decide_true, if_true, wrap_succ (show i ≤ 1000000000 by omega), idx_uLs (get?_of_lt hk), idx_uIs (get?_of_lt hlt), cell_uIs, cell_c, asI_c, y49_is r1[i] hl, toU_val, asB_c]
    cases m with
    | true => simp only [Bool.true_eq_false, if_false, Option.bind_some, ih (i + 1) _ (by omega), Bool.true_or, if_true]
    | false => simp only [if_true, Option.bind_some, ih (i + 1) _ (by omega), Bool.false_or, List.any_cons, hxk]
theorem y22_3_is (hr : r0.length + r1.length ≤ 1000000) (hn : xs.length ≤ 1000000) (hx : ∀ x ∈ xs, x.2.length ≤ 1000000) {a1 a2 : U} : ∀ (d k : Nat), k + d = xs.length → y22_3 M a a1 a2 (uLs b3 xs) (uIs b6 r0) (uIs b7 r1) (k : Int) = res (pAc xs r1 d k) := by
  intro d
  induction d with
  | zero =>
    intro k hk
    rw [y22_3_eq]
    simp only [len_uLs, Option.bind_some, show ¬ ((k : Int) < xs.length) by omega, decide_false, Bool.false_eq_true, if_false]
    rfl
  | succ d ih =>
    intro k hk
    have h4 := y22_4_is (M := M) (a := a) (b3 := b3) (b6 := b6) (b7 := b7) (a1 := a1) (a2 := a2) hr hn hx (show k < xs.length by omega) r1.length 0 false (by omega)
    rw [show ((0 : Nat) : Int) = 0 from rfl] at h4
    rw [y22_3_eq]
    simp only [len_uLs, Option.bind_some, show ((k : Int) < xs.length) by omega, decide_true, if_true, h4, ih (k + 1) (by omega), List.drop_zero, Bool.false_or, pAc]
    have hg : (r1.any fun n => decide (n ∈ (xs.getD k (false, [])).2)) = acc xs r1 k := rfl
    rw [hg]
    cases acc xs r1 k <;> simp [res]
theorem y22_2_is (hr : r0.length + r1.length ≤ 1000000) (he : es.length ≤ 1000000) (hn : xs.length ≤ 1000000) (hx : ∀ x ∈ xs, x.2.length ≤ 1000000) (hok : es.all (eOK a) = true) (hw1 : 0 < w1.length) (hw : (w0 ++ w1).all ltr = true) (hwl : w0.length + w1.length ≤ 1000000) (hr1 : 0 < r1.length) {a1 : U} : ∀ (d k : Nat), k + d = r0.length + r1.length → y22_2 M a a1 (uEs b2 es) (uLs b3 xs) (uIs b4 w0) (uIs b5 w1) (uIs b6 r0) (uIs b7 r1) ((r0.length + r1.length : Nat) : Int) (k : Int) = res (pEd es (r0 ++ r1) r0.length w0 w1 (pAc xs r1 xs.length 0) d k) := by
  intro d
  induction d with
  | zero =>
    intro k hk
    have h3 := y22_3_is (M := M) (a := a) (b3 := b3) (b6 := b6) (b7 := b7) (r0 := r0) (r1 := r1) (xs := xs) (a1 := a1) (a2 := uEs b2 es) hr hn hx xs.length 0 (by omega)
    rw [show ((0 : Nat) : Int) = 0 from rfl] at h3
    rw [y22_2_eq]
    simp only [show ¬ ((k : Int) < ((r0.length + r1.length : Nat) : Int)) by omega, decide_false, Bool.false_eq_true, if_false, h3, pEd]
  | succ d ih =>
    intro k hk
    have hn' : (if k + 1 < r0.length + r1.length then k + 1 else r0.length) < r0.length + r1.length := by split <;> omega
    rw [y22_2_eq]
    simp only [show ((k : Int) < ((r0.length + r1.length : Nat) : Int)) by omega, decide_true, if_true, y48_is (M := M) (b1 := b6) (b2 := b7) (show k < r0.length + r1.length by omega) hr, y51_is (M := M) (b1 := b6) (b2 := b7) (show k < r0.length + r1.length by omega) hr, Option.bind_some, toU_val, asI_c,
      y48_is (M := M) (b1 := b6) (b2 := b7) hn' hr, y42_is (M := M) (b1 := b4) (b2 := b5) (l := w0) hw1 hwl (show k ≤ 1000000 by omega), y50_is (M := M) (b := b2) (a1 := a1) (a3 := uLs b3 xs) he hok (letr_ok (k := k) hw1 hw), asB_c, wrap_succ (show k ≤ 1000000000 by omega), ih (k + 1) (by omega), pEd]
    have hg : es.any (edge (at0 (r0 ++ r1) k) (at0 (r0 ++ r1) (if k + 1 < r0.length + r1.length then k + 1 else r0.length)) (letr w0 w1 k)) = goE es (r0 ++ r1) r0.length w0 w1 k := by simp only [goE, List.length_append]
    rw [hg]
    cases goE es (r0 ++ r1) r0.length w0 w1 k <;> simp [res]
theorem y22_1_is (hl : l.length ≤ 1000000) (hr : r0.length + r1.length ≤ 1000000) (he : es.length ≤ 1000000) (hn : xs.length ≤ 1000000) (hx : ∀ x ∈ xs, x.2.length ≤ 1000000) (ha : btw a 0 300 = true) (hok : es.all (eOK a) = true) (hw1 : 0 < w1.length) (hw : (w0 ++ w1).all ltr = true) (hwl : w0.length + w1.length ≤ 1000000) (hr1 : 0 < r1.length) : ∀ (d k : Nat), k + d = r0.length + r1.length →
    y22_1 M a (uIs b1 l) (uEs b2 es) (uLs b3 xs) (uIs b4 w0) (uIs b5 w1) (uIs b6 r0) (uIs b7 r1) ((r0.length + r1.length : Nat) : Int) (k : Int) = res (pSt a (r0 ++ r1) (if at0 (r0 ++ r1) 0 ∈ l then pEd es (r0 ++ r1) r0.length w0 w1 (pAc xs r1 xs.length 0) (r0.length + r1.length) 0 else (0, 30)) d k) := by
  intro d
  induction d with
  | zero =>
    intro k hk
    have h3 := y22_2_is (M := M) (b2 := b2) (b3 := b3) (b4 := b4) (b5 := b5) (b6 := b6) (b7 := b7) (a1 := uIs b1 l) hr he hn hx hok hw1 hw hwl hr1 (r0.length + r1.length) 0 (by omega)
    have h0 := y48_is (M := M) (b1 := b6) (b2 := b7) (l := r0) (r := r1) (i := 0) (by omega) hr
    rw [show ((0 : Nat) : Int) = 0 from rfl] at h0 h3
    rw [y22_1_eq]
    simp only [show ¬ ((k : Int) < ((r0.length + r1.length : Nat) : Int)) by omega, decide_false, Bool.false_eq_true, if_false, h0, Option.bind_some, toU_val, asI_c, y49_is _ hl, asB_c, h3, pSt]
    by_cases h : at0 (r0 ++ r1) 0 ∈ l
    · simp [h]
    · simp [h, res]
  | succ d ih =>
    intro k hk
    rw [y22_1_eq]
    simp only [show ((k : Int) < ((r0.length + r1.length : Nat) : Int)) by omega, decide_true, if_true, y48_is (M := M) (b1 := b6) (b2 := b7) (show k < r0.length + r1.length by omega) hr, Option.bind_some, toU_val, asI_c, y41_is, wrap_sub1 ha, asB_c, wrap_succ (show k ≤ 1000000000 by omega), ih (k + 1) (by omega), pSt]
    cases btw (at0 (r0 ++ r1) k) 0 (a - 1) <;> simp [res]
theorem shape_q (hw1 : 0 < w1.length) (hr : r0.length + r1.length ≤ 1000000) (hw : w0.length + w1.length ≤ 1000000) {F : Bool → YRs} :
    ((if (decide (((r0.length : Nat) : Int) < ((w0.length : Nat) : Int))) = false then
      (if ((w1.length : Nat) : Int) = 0 then none else some (!decide ((Int.tmod (IntKind.wrap .i64 (((r0.length : Nat) : Int) - ((w0.length : Nat) : Int))) ((w1.length : Nat) : Int)) = 0)))
      else some (decide (((r0.length : Nat) : Int) < ((w0.length : Nat) : Int)))).bind fun q15 =>
      (if q15 = false then (if ((w1.length : Nat) : Int) = 0 then none else some (!decide ((Int.tmod ((r1.length : Nat) : Int) ((w1.length : Nat) : Int)) = 0))) else some q15).bind F) = F (shapeBad w0 w1 r0 r1) := by
  have h0 : ¬ ((w1.length : Nat) : Int) = 0 := by omega
  simp only [h0, if_false, tmod_nat]
  unfold shapeBad
  by_cases h1 : r0.length < w0.length
  · have : ((r0.length : Nat) : Int) < ((w0.length : Nat) : Int) := by omega
    simp [this, h1]
  · have h2 : ¬ ((r0.length : Nat) : Int) < ((w0.length : Nat) : Int) := by omega
    have hwr : IntKind.wrap .i64 (((r0.length : Nat) : Int) - ((w0.length : Nat) : Int)) = ((r0.length - w0.length : Nat) : Int) := by rw [wrap_in (by omega) (by omega)]; omega
    simp only [h2, decide_false, if_true, hwr, tmod_nat, Option.bind_some]
    by_cases h3 : (r0.length - w0.length) % w1.length = 0
    · have : ((((r0.length - w0.length) % w1.length : Nat) : Nat) : Int) = 0 := by omega
      by_cases h4 : r1.length % w1.length = 0
      · have h5 : (((r1.length % w1.length : Nat) : Nat) : Int) = 0 := by omega
        simp [h1, h3, h4]
      · have h5 : ¬ (((r1.length % w1.length : Nat) : Nat) : Int) = 0 := by omega
        have h6 : ¬ ((r1.length : Int) % (w1.length : Int) = 0) := by rw [show ((r1.length : Int) % (w1.length : Int)) = ((r1.length % w1.length : Nat) : Int) by simp]; exact h5
        simp [h1, h3, h4, h6]
    · have : ¬ ((((r0.length - w0.length) % w1.length : Nat) : Nat) : Int) = 0 := by omega
      simp only [this, decide_false, Bool.not_false, Bool.true_eq_false, if_false, Option.bind_some, h1, h3, ne_eq, not_false_eq_true, true_or, or_true, decide_true]
theorem y22_is (hl : l.length ≤ 1000000) (hr : r0.length + r1.length ≤ 1000000) (he : es.length ≤ 1000000) (hn : xs.length ≤ 1000000) (hx : ∀ x ∈ xs, x.2.length ≤ 1000000) (hwl : w0.length + w1.length ≤ 1000000) :
    y22 M a (uIs b1 l) (uEs b2 es) (uLs b3 xs) (uIs b4 w0) (uIs b5 w1) (uIs b6 r0) (uIs b7 r1) = res (chk a l es xs w0 w1 r0 r1) := by
  rw [y22_eq]
  simp only [y12_is hl he hn hx, Option.bind_some, toU_val, asI_c, y15_is hwl, len_uIs]
  unfold chk
  by_cases h1 : aErr a l es xs = 0
  · obtain ⟨ha, hok⟩ := aErr_btw h1
    by_cases h2 : wErr w0 w1 = 0
    · obtain ⟨hw1, hw, _⟩ := wErr_ok h2
      have hwr : IntKind.wrap .i64 (((r0.length : Nat) : Int) + ((r1.length : Nat) : Int)) = ((r0.length + r1.length : Nat) : Int) := by rw [wrap_in (by omega) (by omega)]; simp
      simp only [h1, h2, decide_true, Bool.not_true, Bool.false_eq_true, if_false, if_true, hwr]
      by_cases h3 : r1.length = 0
      · simp [h3, res]
      · simp only [show ¬ (((r1.length : Nat) : Int) = 0) by omega, decide_false, Bool.false_eq_true, if_false, h3]
        by_cases h4 : 20000 < r0.length + r1.length
        · have : (20000 : Int) < ((r0.length + r1.length : Nat) : Int) := by omega
          simp only [this, decide_true, if_true, h4]
          rfl
        · have : ¬ (20000 : Int) < ((r0.length + r1.length : Nat) : Int) := by omega
          simp only [this, h4, decide_false, Bool.false_eq_true, if_false]
          rw [shape_q hw1 hr hwl]
          by_cases h5 : shapeBad w0 w1 r0 r1 = true
          · simp [h5, res]
          · rw [if_neg h5, if_neg h5]
            have := y22_1_is (M := M) (b1 := b1) (b2 := b2) (b3 := b3) (b4 := b4) (b5 := b5) (b6 := b6) (b7 := b7) hl hr he hn hx ha hok hw1 hw hwl (by omega) (r0.length + r1.length) 0 (by omega)
            rw [show ((0 : Nat) : Int) = 0 from rfl] at this
            exact this
    · simp [h1, h2, res]
  · simp [h1, res]
end
end Go.Proofs.Ytglkhoamnmiolaa.R
