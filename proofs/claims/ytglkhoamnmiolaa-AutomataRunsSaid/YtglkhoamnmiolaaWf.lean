/-
  CHAPTER 14: which runs are right, the program; the law of runs.
-/
import Derived.Test.YtglkhoamnmiolaaWe
namespace Go.Proofs.Ytglkhoamnmiolaa.R
open Go Go.Proofs.Ytglkhoamnmiolaa.Vm
set_option linter.unusedVariables false
set_option linter.unusedSimpArgs false
variable {M : YM}
section
variable {a : Int} {b1 b2 b3 b4 b5 b6 b7 : Bool} {l : List Int} {es : List E4} {xs : List (Bool × List Int)} {w0 w1 r0 r1 : List Int}
theorem y23_4_is (hr : r1.length ≤ 1000000) (hn : xs.length ≤ 1000000) (hx : ∀ x ∈ xs, x.2.length ≤ 1000000) {a1 : U} : ∀ (d k : Nat), k + d = xs.length → y23_4 M a1 (uIs b7 r1) (uLs b3 xs) (xs.length : Int) (k : Int) = res (pAc xs r1 d k) := by
  intro d
  induction d with
  | zero =>
    intro k hk
    rw [y23_4_eq]
    simp only [show ¬ ((k : Int) < xs.length) by omega, decide_false, Bool.false_eq_true, if_false]
    rfl
  | succ d ih =>
    intro k hk
    have hlt : k < xs.length := by omega
    have hxk : xs.getD k (false, []) = xs[k] := by rw [List.getD_eq_getElem?_getD, get?_of_lt hlt]; rfl
    have hp := fun n => y62_is (M := M) (b := xs[k].1) (hx _ (List.getElem_mem hlt)) n
    rw [y23_4_eq]
    simp only [show ((k : Int) < xs.length) by omega, decide_true, if_true, idx_uLs (get?_of_lt hlt), Option.bind_some, cell_uIs, one_uIs, y61_is hp hr, toU_val, asB_c, wrap_succ (show k ≤ 1000000000 by omega), ih (k + 1) (by omega), pAc]
    have hg : (r1.any fun n => decide (n ∈ xs[k].2)) = acc xs r1 k := by simp only [acc, hxk]
    rw [hg]
    cases acc xs r1 k <;> simp [res]
variable {all : Sx} (ha1 : all.es = (r0 ++ r1).map uI) (ha2 : all.es ≠ [] → all.sz = 1)
include ha1 ha2
theorem all_at {k : Nat} (hk : k < r0.length + r1.length) : Sx.has all 1 (k : Int) = true ∧ (all.es)[(k : Int).toNat]? = some (uI (at0 (r0 ++ r1) k)) := by
  have hl : all.es.length = r0.length + r1.length := by rw [ha1]; simp
  have hz : all.sz = 1 := ha2 (fun h => by rw [h] at hl; simp at hl; omega)
  refine ⟨?_, ?_⟩
  · simp only [Sx.has, hl, hz]
    simp; omega
  · rw [ha1, Int.toNat_natCast, List.getElem?_map, get?_of_lt (show k < (r0 ++ r1).length by simp; omega)]
    simp only [Option.map_some, at0, List.getD_eq_getElem?_getD, get?_of_lt (show k < (r0 ++ r1).length by simp; omega), Option.getD_some]
theorem y23_2_is (hr : r0.length + r1.length ≤ 1000000) (he : es.length ≤ 1000000) (hn : xs.length ≤ 1000000) (hx : ∀ x ∈ xs, x.2.length ≤ 1000000) (hok : es.all (eOK a) = true) (hw1 : 0 < w1.length) (hw : (w0 ++ w1).all ltr = true) (hwl : w0.length + w1.length ≤ 1000000) (hr1 : 0 < r1.length) {a1 : U} : ∀ (d k : Nat), k + d = r0.length + r1.length → y23_2 M a a1 (uEs b2 es) (uLs b3 xs) (uIs b4 w0) (uIs b5 w1) (uIs b6 r0) (uIs b7 r1) ((r0.length + r1.length : Nat) : Int) (k : Int) all = res (pEd es (r0 ++ r1) r0.length w0 w1 (pAc xs r1 xs.length 0) d k) := by
  intro d
  have hal : all.es.length = r0.length + r1.length := by rw [ha1]; simp
  induction d with
  | zero =>
    intro k hk
    have h3 := y23_4_is (M := M) (b3 := b3) (b7 := b7) (r1 := r1) (xs := xs) (a1 := uIs b6 r0) (by omega) hn hx xs.length 0 (by omega)
    rw [show ((0 : Nat) : Int) = 0 from rfl] at h3
    rw [y23_2_eq]
    simp only [show ¬ ((k : Int) < ((r0.length + r1.length : Nat) : Int)) by omega, decide_false, Bool.false_eq_true, if_false, len_uLs, Option.bind_some, h3, pEd]
  | succ d ih =>
    intro k hk
    obtain ⟨p1, p2⟩ := all_at ha1 ha2 (show k < r0.length + r1.length by omega)
    have i1 := idx_at (b := b7) (l := r1) (k := 0) hr1
    rw [show ((0 : Nat) : Int) = 0 from rfl] at i1
    have hws : IntKind.wrap .i64 (((all.es).length : Int) - 1) = ((r0.length + r1.length - 1 : Nat) : Int) := by rw [hal, wrap_in (by omega) (by omega)]; omega
    have h3 : ∀ t : Int, y23_3 M a a1 (uEs b2 es) (uLs b3 xs) (uIs b4 w0) (uIs b5 w1) (uIs b6 r0) (uIs b7 r1) (k : Int) ((r0.length + r1.length : Nat) : Int) (k : Int) all (at0 (r0 ++ r1) k) t = if es.any (edge (at0 (r0 ++ r1) k) t (letr w0 w1 k)) = true then res (pEd es (r0 ++ r1) r0.length w0 w1 (pAc xs r1 xs.length 0) d (k + 1)) else res (k, 10) := by
      intro t
      have hp := fun e => y59_is (M := M) (at0 (r0 ++ r1) k) t (letr w0 w1 k) e
      rw [y23_3_eq]
      simp only [pI] at hp
      simp only [y57_is (M := M) (b1 := b4) (b2 := b5) (l := w0) hw1 hwl (show k ≤ 1000000 by omega), Option.bind_some, toU_val, asI_c, y58_is (b := b2) hp he, asB_c, wrap_succ (show k ≤ 1000000000 by omega), ih (k + 1) (by omega)]
      cases es.any (edge (at0 (r0 ++ r1) k) t (letr w0 w1 k)) <;> simp [res]
    rw [y23_2_eq]
    simp only [show ((k : Int) < ((r0.length + r1.length : Nat) : Int)) by omega, decide_true, if_true, p1, p2, i1, Option.bind_some, cell_c, asI_c, hws, h3, pEd, goE, List.length_append, wrap_succ (show k ≤ 1000000000 by omega)]
    by_cases hlast : k + 1 < r0.length + r1.length
    · obtain ⟨q1, q2⟩ := all_at ha1 ha2 hlast
      simp only [show ((k : Int) < ((r0.length + r1.length - 1 : Nat) : Int)) by omega, decide_true, if_true, q1, q2, Option.bind_some, cell_c, asI_c, hlast, h3]
      cases es.any (edge (at0 (r0 ++ r1) k) (at0 (r0 ++ r1) (k + 1)) (letr w0 w1 k)) <;> simp [res]
    · have h0 : at0 (r0 ++ r1) r0.length = at0 r1 0 := by rw [at0_append]; simp
      simp only [show ¬ ((k : Int) < ((r0.length + r1.length - 1 : Nat) : Int)) by omega, decide_false, Bool.false_eq_true, if_false, hlast, h0]
      cases es.any (edge (at0 (r0 ++ r1) k) (at0 r1 0) (letr w0 w1 k)) <;> simp [res]
theorem y23_1_is (hl : l.length ≤ 1000000) (hr : r0.length + r1.length ≤ 1000000) (he : es.length ≤ 1000000) (hn : xs.length ≤ 1000000) (hx : ∀ x ∈ xs, x.2.length ≤ 1000000) (ha : btw a 0 300 = true) (hok : es.all (eOK a) = true) (hw1 : 0 < w1.length) (hw : (w0 ++ w1).all ltr = true) (hwl : w0.length + w1.length ≤ 1000000) (hr1 : 0 < r1.length) : ∀ (d k : Nat), k + d = r0.length + r1.length →
    y23_1 M a (uIs b1 l) (uEs b2 es) (uLs b3 xs) (uIs b4 w0) (uIs b5 w1) (uIs b6 r0) (uIs b7 r1) ((r0.length + r1.length : Nat) : Int) (k : Int) all = res (pSt a (r0 ++ r1) (if at0 (r0 ++ r1) 0 ∈ l then pEd es (r0 ++ r1) r0.length w0 w1 (pAc xs r1 xs.length 0) (r0.length + r1.length) 0 else (0, 30)) d k) := by
  intro d
  have hal : all.es.length = r0.length + r1.length := by rw [ha1]; simp
  induction d with
  | zero =>
    intro k hk
    have h3 := y23_2_is (M := M) (b2 := b2) (b3 := b3) (b4 := b4) (b5 := b5) (b6 := b6) (b7 := b7) (a1 := uIs b1 l) ha1 ha2 hr he hn hx hok hw1 hw hwl hr1 (r0.length + r1.length) 0 (by omega)
    obtain ⟨p1, p2⟩ := all_at ha1 ha2 (show 0 < r0.length + r1.length by omega)
    rw [show ((0 : Nat) : Int) = 0 from rfl] at h3 p1 p2
    rw [y23_1_eq]
    simp only [show ¬ ((k : Int) < ((r0.length + r1.length : Nat) : Int)) by omega, decide_false, Bool.false_eq_true, if_false, p1, if_true, p2, Option.bind_some, cell_c, toU_val, asI_c, y56_is _ hl, asB_c, hal, h3, pSt]
    by_cases h : at0 (r0 ++ r1) 0 ∈ l
    · simp [h]
    · simp [h, res]
  | succ d ih =>
    intro k hk
    obtain ⟨p1, p2⟩ := all_at ha1 ha2 (show k < r0.length + r1.length by omega)
    rw [y23_1_eq]
    simp only [show ((k : Int) < ((r0.length + r1.length : Nat) : Int)) by omega, decide_true, if_true, p1, p2, Option.bind_some, cell_c, toU_val, asI_c, y55_is, wrap_sub1 ha, asB_c, wrap_succ (show k ≤ 1000000000 by omega), ih (k + 1) (by omega), pSt]
    cases btw (at0 (r0 ++ r1) k) 0 (a - 1) <;> simp [res]
omit ha1 ha2
theorem y23_is (hl : l.length ≤ 1000000) (hr : r0.length + r1.length ≤ 1000000) (he : es.length ≤ 1000000) (hn : xs.length ≤ 1000000) (hx : ∀ x ∈ xs, x.2.length ≤ 1000000) (hwl : w0.length + w1.length ≤ 1000000) :
    y23 M a (uIs b1 l) (uEs b2 es) (uLs b3 xs) (uIs b4 w0) (uIs b5 w1) (uIs b6 r0) (uIs b7 r1) = res (chk a l es xs w0 w1 r0 r1) := by
  rw [y23_eq]
  simp only [y45_is (M := M) (b1 := b1) (b2 := b2) (b3 := b3) hl he hn hx hwl, Option.bind_some, toU_val, asI_c, len_uIs]
  unfold chk
  by_cases h1 : aErr a l es xs = 0
  · obtain ⟨ha, hok⟩ := aErr_btw h1
    simp only [h1, if_true]
    by_cases h2 : wErr w0 w1 = 0
    · obtain ⟨hw1, hw, _⟩ := wErr_ok h2
      have hwr : IntKind.wrap .i64 (((r0.length : Nat) : Int) + ((r1.length : Nat) : Int)) = ((r0.length + r1.length : Nat) : Int) := by rw [wrap_in (by omega) (by omega)]; simp
      have hlt : (decide (IntKind.wrap .i64 (((r0.length : Nat) : Int) - ((w0.length : Nat) : Int)) < 0)) = decide (((r0.length : Nat) : Int) < ((w0.length : Nat) : Int)) := by
        rw [wrap_in (by omega) (by omega), decide_eq_decide]; omega
      have hlit := fun a b c => y52_lit (M := M) [a, b, c] (by simp)
      simp only [List.map_cons, List.map_nil, uI] at hlit
      simp only [h2, decide_true, Bool.not_true, Bool.false_eq_true, if_false, if_true, hwr, y53_is, Option.bind_some, toU_val, asI_c, hlt]
      rw [shape_q hw1 hr hwl]
      simp only [y53_is, Option.bind_some, toU_val, asI_c, hlit]
      have h20 : (decide ((20000 : Int) < ((r0.length + r1.length : Nat) : Int)) = true) = (20000 < r0.length + r1.length) := by simp only [decide_eq_true_eq, eq_iff_iff]; omega
      have h00 : (decide (((r1.length : Nat) : Int) = 0) = true) = (r1.length = 0) := by simp only [decide_eq_true_eq, eq_iff_iff]; omega
      simp only [h20, h00]
      by_cases h3 : r1.length = 0
      · simp only [h3, if_true, firstErr]; rfl
      · by_cases h4 : 20000 < r0.length + r1.length
        · simp only [h3, h4, if_true, if_false, firstErr]; rfl
        · by_cases h5 : shapeBad w0 w1 r0 r1 = true
          · simp only [h3, h4, h5, if_true, if_false, firstErr]; rfl
          · obtain ⟨s, s1, s2, s3⟩ := y54_is (M := M) (b1 := b6) (b2 := b7) (l := r0) (r := r1) hr
            have hal : s.es.length = r0.length + r1.length := by rw [s2]; simp
            have := y23_1_is (M := M) (b1 := b1) (b2 := b2) (b3 := b3) (b4 := b4) (b5 := b5) (b6 := b6) (b7 := b7) s2 s3 hl hr he hn hx ha hok hw1 hw hwl (by omega) (r0.length + r1.length) 0 (by omega)
            rw [show ((0 : Nat) : Int) = 0 from rfl] at this
            simp only [h3, h4, h5, if_true, if_false, firstErr, decide_true, Bool.not_true, Bool.false_eq_true, size_uIs, s1, Option.bind_some, asSl_sl, hal, this]
    · simp [h2, res]
  · simp [h1, res]
theorem y9_1_is {a1 a2 : U} (hn : xs.length ≤ 1000000) : ∀ (d k : Nat), k + d = xs.length → y9_1 M a a1 a2 (uLs b3 xs) (k : Int) = some (.val (.c (.bool ((xs.drop k).all fun x => decide (x.2.length ≤ 40))))) := by
  intro d
  induction d with
  | zero =>
    intro k hk
    rw [y9_1_eq, List.drop_of_length_le (by omega)]
    simp only [len_uLs, Option.bind_some, show ¬ ((k : Int) < xs.length) by omega, decide_false, Bool.false_eq_true, if_false, List.all_nil]
  | succ d ih =>
    intro k hk
    have hlt : k < xs.length := by omega
    rw [y9_1_eq, List.drop_eq_getElem_cons hlt]
    simp only [len_uLs, Option.bind_some, show ((k : Int) < xs.length) by omega, decide_true, if_true, idx_uLs (get?_of_lt hlt), cell_uIs, len_uIs, wrap_succ (show k ≤ 1000000000 by omega), ih (k + 1) (by omega), List.all_cons]
    by_cases h : xs[k].2.length ≤ 40
    · have : ¬ ((40 : Int) < (xs[k].2.length : Int)) := by omega
      simp [-List.getElem_cons_drop, this, h]
    · have : ((40 : Int) < (xs[k].2.length : Int)) := by omega
      simp [-List.getElem_cons_drop, this, h]
def few (a : Int) (l : List Int) (es : List E4) (xs : List (Bool × List Int)) : Bool :=
  !(decide (30 < a) && decide (a ≤ 300)) && decide (es.length ≤ 60) && decide (l.length ≤ 40) && decide (xs.length ≤ 12) && xs.all fun x => decide (x.2.length ≤ 40)
theorem y9_is : y9 M a (uIs b1 l) (uEs b2 es) (uLs b3 xs) = some (.val (.c (.bool (few a l es xs)))) := by
  have h9 : xs.length ≤ 12 → y9_1 M a (uIs b1 l) (uEs b2 es) (uLs b3 xs) 0 = some (.val (.c (.bool (xs.all fun x => decide (x.2.length ≤ 40))))) := by
    intro h
    have := y9_1_is (M := M) (a := a) (b3 := b3) (a1 := uIs b1 l) (a2 := uEs b2 es) (xs := xs) (by omega) xs.length 0 (by omega)
    rw [List.drop_zero] at this
    exact this
  rw [y9_eq]
  simp only [len_uEs, len_uIs, len_uLs, Option.bind_some]
  unfold few
  have e1 : decide ((60 : Int) < (es.length : Int)) = !decide (es.length ≤ 60) := by rw [← decide_not, decide_eq_decide]; omega
  have e2 : decide ((40 : Int) < (l.length : Int)) = !decide (l.length ≤ 40) := by rw [← decide_not, decide_eq_decide]; omega
  have e3 : decide ((12 : Int) < (xs.length : Int)) = !decide (xs.length ≤ 12) := by rw [← decide_not, decide_eq_decide]; omega
  rw [e1, e2, e3]
  cases h1 : decide (30 < a) <;> cases h2 : decide (a ≤ 300) <;> cases h3 : decide (es.length ≤ 60) <;> cases h4 : decide (l.length ≤ 40) <;> cases h5 : decide (xs.length ≤ 12) <;> first | rfl | exact h9 (of_decide_eq_true h5)
theorem y17_is : y17 M (uIs b4 w0) (uIs b5 w1) = some (.val (.c (.bool (decide (w0.length ≤ 70) && decide (w1.length ≤ 70))))) := by
  rw [y17_eq]
  simp only [len_uIs, Option.bind_some]
  have e1 : decide ((w0.length : Int) ≤ 70) = decide (w0.length ≤ 70) := by rw [decide_eq_decide]; omega
  have e2 : decide ((w1.length : Int) ≤ 70) = decide (w1.length ≤ 70) := by rw [decide_eq_decide]; omega
  rw [e1, e2]
  cases decide (w0.length ≤ 70) <;> cases decide (w1.length ≤ 70) <;> rfl
theorem cp_len (xs : List (Bool × List Int)) : (cp xs).length = xs.length := by simp [cp]
theorem lErr_cp (a : Int) : ∀ xs : List (Bool × List Int), lErr a (cp xs) = lErr a xs
  | [] => rfl
  | x :: xs => by
    have := lErr_cp a xs
    simp only [cp] at this
    simp only [cp, List.map_cons, lErr, this]
theorem acc_cp (xs : List (Bool × List Int)) (r1 : List Int) (k : Nat) : acc (cp xs) r1 k = acc xs r1 k := by
  unfold acc cp
  have : ((xs.map fun x => (true, x.2)).getD k (false, [])).2 = (xs.getD k (false, [])).2 := by
    rw [List.getD_eq_getElem?_getD, List.getD_eq_getElem?_getD, List.getElem?_map]
    cases xs[k]? <;> rfl
  rw [this]
theorem pAc_cp (xs : List (Bool × List Int)) (r1 : List Int) : ∀ d k, pAc (cp xs) r1 d k = pAc xs r1 d k
  | 0, _ => rfl
  | d + 1, k => by simp only [pAc, acc_cp, pAc_cp xs r1 d]
theorem aErr_cp : aErr a l es (cp xs) = aErr a l es xs := by
  unfold aErr
  rw [lErr_cp, cp_len]
theorem chk_cp : chk a l es (cp xs) w0 w1 r0 r1 = chk a l es xs w0 w1 r0 r1 := by
  unfold chk
  rw [aErr_cp, pAc_cp, cp_len]
theorem f2 (a : Int) (b1 b2 b3 : Bool) (l : List Int) (es : List E4) (xs : List (Bool × List Int)) : ∃ f, U.exact (.st [uI a, uIs b1 l, uEs b2 es, uLs b3 xs]) ks2 = some f ∧ f 0 = uI a ∧ f 1 = uIs b1 l ∧ f 2 = uEs b2 es ∧ f 3 = uLs b3 xs := ⟨_, rfl, rfl, rfl, rfl, rfl⟩
theorem f1 (b1 b2 : Bool) (l r : List Int) : ∃ f, U.exact (.st [uIs b1 l, uIs b2 r]) ks1 = some f ∧ f 0 = uIs b1 l ∧ f 1 = uIs b2 r := ⟨_, rfl, rfl, rfl⟩
/-- the law of runs, after awake -/
theorem runs_ok (h8 : y8 M = some (.val (.c (.bool true)))) : y5 M a (uIs b1 l) (uEs b2 es) (uLs b3 xs) (uIs b4 w0) (uIs b5 w1) (uIs b6 r0) (uIs b7 r1) = some (.val (.c (.bool true))) := by
  rw [y5_eq]
  simp only [h8, Option.bind_some, toU_val, asB_c, Bool.not_true, Bool.false_eq_true, if_false, y9_is, y17_is, len_uIs]
  have e1 : decide ((100 : Int) < (r0.length : Int)) = decide (100 < r0.length) := by rw [decide_eq_decide]; omega
  have e2 : decide ((100 : Int) < (r1.length : Int)) = decide (100 < r1.length) := by rw [decide_eq_decide]; omega
  rw [e1, e2]
  cases hf : few a l es xs with
  | false => rfl
  | true =>
    cases h1 : decide (w0.length ≤ 70) with
    | false => rfl
    | true =>
      cases h2 : decide (w1.length ≤ 70) with
      | false => rfl
      | true =>
        cases h3 : decide (100 < r0.length) with
        | true => rfl
        | false =>
          cases h4 : decide (100 < r1.length) with
          | true => rfl
          | false =>
            simp only [decide_eq_true_eq, decide_eq_false_iff_not] at h1 h2 h3 h4
            simp only [few, Bool.and_eq_true, decide_eq_true_eq, List.all_eq_true] at hf
            obtain ⟨⟨⟨⟨_, k1⟩, k2⟩, k3⟩, k4⟩ := hf
            have k5 : ∀ x ∈ xs, x.2.length ≤ 1000000 := fun x hx => by have := k4 x hx; omega
            have k6 : ∀ x ∈ cp xs, x.2.length ≤ 1000000 := by
              intro x hx
              obtain ⟨y, hy, rfl⟩ := List.mem_map.1 hx
              exact k5 y hy
            obtain ⟨b', g1⟩ := y11_is (M := M) (b1 := b1) (b2 := b2) (b3 := b3) (a := a) (l := l) (es := es) (xs := xs) (by omega) (by omega) (by omega) k5
            have g2 := y19_is (M := M) (b1 := b4) (b2 := b5) (l := w0) (r := w1) (by omega) (by omega)
            have g3 := y24_is (M := M) (b1 := b6) (b2 := b7) (l := r0) (r := r1) (by omega) (by omega)
            obtain ⟨f, f0, f1', f2', f3, f4⟩ := f2 a true true b' l es (cp xs)
            obtain ⟨g, g0, g1', g2'⟩ := f1 true true w0 w1
            obtain ⟨h, h0, h1', h2'⟩ := f1 true true r0 r1
            have p1 := y23_is (M := M) (a := a) (b1 := true) (b2 := true) (b3 := b') (b4 := true) (b5 := true) (b6 := true) (b7 := true) (l := l) (es := es) (xs := cp xs) (w0 := w0) (w1 := w1) (r0 := r0) (r1 := r1) (by omega) (by omega) (by omega) (by rw [cp_len]; omega) k6 (by omega)
            have p2 := y22_is (M := M) (a := a) (b1 := b1) (b2 := b2) (b3 := b3) (b4 := b4) (b5 := b5) (b6 := b6) (b7 := b7) (l := l) (es := es) (xs := xs) (w0 := w0) (w1 := w1) (r0 := r0) (r1 := r1) (by omega) (by omega) (by omega) (by omega) k5 (by omega)
            rw [chk_cp] at p1
            simp only [Bool.not_true, if_true, Option.bind_some, Bool.true_and, Bool.and_self, if_false, Bool.false_eq_true, g1, g2, g3, toU_val, f0, f1', f2', f3, f4, g0, g1', g2', h0, h1', h2', i_uI, p1, p2, res, asTup_tup, List.getElem?_cons_zero, List.getElem?_cons_succ, asI_uI, decide_true]
end
end Go.Proofs.Ytglkhoamnmiolaa.R
