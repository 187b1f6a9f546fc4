/-
  CHAPTER 19: the law of graphs.
-/
import Derived.Test.YthjjbkiejkhjfaaWg
import Derived.Test.YthjjbkiejkhjfaaWx
import Derived.Test.YthjjbkiejkhjfaaWz
namespace Go.Proofs.Ythjjbkiejkhjfaa.R
open Go Go.Proofs.Ythjjbkiejkhjfaa.Vm
set_option linter.unusedVariables false
set_option linter.unusedSimpArgs false
variable {M : YM}
section
variable {n : Int} {b1 b2 b3 : Bool} {l : List Int} {es : List E3} {xs : List (Bool × List Int)}
theorem cp_len (xs : List (Bool × List Int)) : (cp xs).length = xs.length := by simp [cp]
theorem getD_cp (k : Nat) : ((cp xs).getD k (false, [])).2 = (xs.getD k (false, [])).2 := by
  unfold cp
  rw [List.getD_eq_getElem?_getD, List.getD_eq_getElem?_getD, List.getElem?_map]
  cases xs[k]? <;> rfl
theorem formErr_cp : ∀ d k, formErr es (cp xs) d k = formErr es xs d k
  | 0, _ => rfl
  | d + 1, k => by simp only [formErr, getD_cp, formErr_cp d]
theorem cErr_cp : cErr n es (cp xs) = cErr n es xs := by
  unfold cErr
  rw [cp_len, formErr_cp]
theorem redE_cp : redE es (cp xs) = redE es xs := by
  unfold redE
  congr 1
  funext e
  unfold inC
  rw [getD_cp]
theorem ex1 (a : Int) (b b' : Bool) (l : List Int) (es : List E3) : ∃ f, U.exact (.st [uI a, uIs b l, uEs b' es]) ks1 = some f ∧ f 0 = uI a ∧ f 1 = uIs b l ∧ f 2 = uEs b' es := ⟨_, rfl, rfl, rfl, rfl⟩
theorem one_uIs' (b : Bool) (l : List Int) : U.one (uIs b l) = some (uIs b l) := rfl
theorem graphs_ok (hM : M.ext = yExt2) (h10 : y10 M = some (.val (.c (.bool true)))) : y4 M n (uIs b1 l) (uEs b2 es) (uLs b3 xs) = some (.val (.c (.bool true))) := by
  rw [y4_eq]
  simp only [h10, Option.bind_some, toU_val, asB_c, Bool.not_true, Bool.false_eq_true, if_false, y11_is, y12_is]
  by_cases hf : few n l es = true
  rotate_left
  · simp only [Bool.not_eq_true] at hf
    simp [hf]
  by_cases hb : brief xs = true
  rotate_left
  · simp only [Bool.not_eq_true] at hb
    simp [hf, hb]
  have hf' := hf
  have hb' := hb
  simp only [few, Bool.and_eq_true, decide_eq_true_eq] at hf'
  simp only [brief, Bool.and_eq_true, decide_eq_true_eq, List.all_eq_true] at hb'
  obtain ⟨⟨_, k1⟩, k2⟩ := hf'
  have hx : ∀ x ∈ xs, x.2.length ≤ 1000000 := fun x h => by have := hb'.2 x h; omega
  have hx' : ∀ x ∈ cp xs, x.2.length ≤ 1000000 := fun x h => by
    obtain ⟨y, hy, rfl⟩ := List.mem_map.1 h
    exact hx y hy
  have g1 := y14_is (M := M) (n := n) (b1 := b1) (b2 := b2) (l := l) (es := es) (by omega) (by omega)
  obtain ⟨f, f0, f1, f2, f3⟩ := ex1 n true true l es
  obtain ⟨s16, g2, g3⟩ := y16_is (M := M) (b3 := b3) (xs := xs) (by omega) hx
  obtain ⟨bx, by', g4⟩ := y23_is (M := M) (n := n) (b1 := true) (b2 := true) (b3 := s16.b) (l := l) (es := es) (xs := cp xs) hM (by omega) (by omega) hx' (fun h => by cases h)
  obtain ⟨br, g5⟩ := y24_is (M := M) (n := n) (b1 := true) (b2 := true) (l := l) (es := es) hM (by omega) (by omega) (fun h => by cases h)
  obtain ⟨bd, g6⟩ := y25_is (M := M) (n := n) (b1 := true) (b2 := true) (l := l) (es := es) hM (by omega) (by omega) (fun h => by cases h)
  have g7 := y17_is (M := M) (n := n) (b1 := b1) (b2 := b2) (l := l) (es := es) (by omega) (by omega)
  have hgc : gcErr n l es (cp xs) = gcErr n l es xs := by unfold gcErr; rw [cErr_cp]
  rw [hgc, redE_cp] at g4
  have z1 : Sx.fz (⟨false, 0, []⟩ : Sx) = uIs false [] := rfl
  have z2 : (uIs false [] : U) = uEs false [] := rfl
  by_cases h0 : gErr n l es = 0
  · obtain ⟨N, rfl, hN, j4, hl, hok, hed⟩ := gErr_nat h0
    obtain ⟨s28, g8, g9⟩ := y28_is (M := M) (b1 := b1) (b2 := b2) hN j4 (show l.length ≤ 1000 by omega) hl hok
    obtain ⟨s29, g10, g11⟩ := y29_is (M := M) (b1 := b1) (b2 := b2) hN j4 (show l.length ≤ 1000 by omega) hl hok
    have hr := picks_len (reachB l es) N 0
    have hd := picks_len (fun s => reachB l es s && deadB es s) N 0
    have g12 := fun b b' => y27_is (M := M) (b1 := b) (b2 := b') (l := reachL N l es) (r := reachL N l es) (by unfold reachL; omega)
    have g13 := fun b b' => y27_is (M := M) (b1 := b) (b2 := b') (l := deadL N l es) (r := deadL N l es) (by unfold deadL; omega)
    have g14 := y19_is (M := M) (n := (N : Int)) (b2 := b2) (b3 := b3) (es := es) (xs := xs) (g1 := uIs b1 l) j4 (by omega) hx
    have hgc2 : gcErr (N : Int) l es xs = cErr (N : Int) es xs := by unfold gcErr; rw [if_pos h0]
    rw [hgc2] at g4
    simp only [h0, if_true, Int.toNat_natCast] at g5 g6
    by_cases h1 : cErr (N : Int) es xs = 0
    · rw [h1] at g4
      simp only [if_true] at g4
      obtain ⟨q, q0, q1, q2, q3⟩ := ex1 (N : Int) bx by' l (redE es xs)
      have hlen := cErr_len h1
      obtain ⟨by2, g15⟩ := y30_is (M := M) (b1 := b1) (b2 := b2) (b3 := b3) (l := l) (by omega) j4 hx (show xs.length = N by omega) hok
      obtain ⟨r, r0, r1, r2, r3⟩ := ex1 (N : Int) true by2 l (redE es xs)
      have hrl : (redE es xs).length ≤ 1000000 := by
        have := List.length_filter_le (inC xs) es
        unfold redE; omega
      have g16 := y26_is (M := M) (n := (N : Int)) (bx := bx) (bx' := true) (by1 := by') (by' := by2) (l := l) (es := redE es xs) (by omega) hrl
      simp only [hf, hb, Bool.not_true, if_true, Option.bind_some, Bool.true_eq_false, Bool.false_eq_true, if_false, g1, toU_val, f0, f1, f2, f3, i_uI, g2, asSl_sl, g3, g4, asTup_tup, List.getElem?_cons_zero, List.getElem?_cons_succ, q0, q1, q2, q3, asI_uI, g5, g6, one_uIs', g7, h0, decide_true, g8, g9.fz, g12, asB_c, g10, g11.fz, g13, g14, h1, g15, r0, r1, r2, r3, g16]
    · simp only [h1, if_false] at g4
      obtain ⟨q, q0, q1, q2, q3⟩ := ex1 0 false false [] []
      have g16 := y26_is (M := M) (n := 0) (bx := false) (bx' := false) (by1 := false) (by' := false) (l := []) (es := []) (by simp) (by simp)
      simp only [hf, hb, Bool.not_true, if_true, Option.bind_some, Bool.true_eq_false, Bool.false_eq_true, if_false, g1, toU_val, f0, f1, f2, f3, i_uI, g2, asSl_sl, g3, g4, asTup_tup, List.getElem?_cons_zero, List.getElem?_cons_succ, q0, q1, q2, q3, asI_uI, g5, g6, one_uIs', g7, h0, decide_true, g8, g9.fz, g12, asB_c, g10, g11.fz, g13, g14, h1, decide_false, Bool.not_false, z1]
      rw [← z2] at g16 ⊢
      simp only [g16, Option.bind_some, toU_val, asB_c]
  · have hgc2 : gcErr n l es xs = gErr n l es := by unfold gcErr; rw [if_neg h0]
    rw [hgc2] at g4
    simp only [h0, if_false] at g4 g5 g6
    obtain ⟨q, q0, q1, q2, q3⟩ := ex1 0 false false [] []
    have g16 := y26_is (M := M) (n := 0) (bx := false) (bx' := false) (by1 := false) (by' := false) (l := []) (es := []) (by simp) (by simp)
    have hwz : IntKind.wrap .i64 ((((([] : List Int).length : Nat) : Int)) + (((([] : List Int).length : Nat) : Int))) = 0 := rfl
    simp only [hf, hb, Bool.not_true, if_true, Option.bind_some, Bool.true_eq_false, Bool.false_eq_true, if_false, g1, toU_val, f0, f1, f2, f3, i_uI, g2, asSl_sl, g3, g4, asTup_tup, List.getElem?_cons_zero, List.getElem?_cons_succ, q0, q1, q2, q3, asI_uI, g5, g6, one_uIs', g7, h0, decide_true, asB_c, decide_false, Bool.not_false, z1, asI_c]
    rw [← z2] at g16 ⊢
    simp only [g16, Option.bind_some, toU_val, asB_c, if_true, len_uIs, hwz, decide_true]
end
theorem graphs_all (us : List U) (h : TyPs [.struct [.int .i64, .sl [.int .i64], .sl [.int .i64, .int .i64, .int .i64]], .one (.sl [.sl [.int .i64]])] us) :
    Vm.yrun yExt2 yprog md 4 0 (us.map .val) [] = some (.val (.c (.bool true))) := by
  obtain ⟨u1, _, rfl, h1, u2, _, rfl, h2, rfl⟩ := h
  obtain ⟨n, b1, l, b2, es, rfl⟩ := ty_graph h1
  obtain ⟨b3, xs, rfl⟩ := ty_lists h2
  exact graphs_ok (M := MM) MM_ext y10_true
end Go.Proofs.Ythjjbkiejkhjfaa.R
