/-
  CHAPTER 20: walks in memory; what walks cover (the reference); steps that are not covered.
-/
import Derived.Test.YtnnjklkfcleleaaWp
namespace Go.Proofs.Ytnnjklkfcleleaa.R
open Go Go.Proofs.Ytnnjklkfcleleaa.Vm
set_option linter.unusedVariables false
set_option linter.unusedSimpArgs false
variable {M : Mach}

structure Wk where
  f : Int
  st : List Int
  b : Bool
def rowW (p : Wk × C) : List C := [.int .i64 p.1.f, p.2, .bool p.1.b]
/-- walks that are read only -/
def Wks (H : Heap) (c : C) (ps : List (Wk × C)) : Prop := Sl H c 3 (ps.map rowW) ∧ ∀ p ∈ ps, Ints H p.2 p.1.st
theorem Wks.grow {H H' : Heap} {c : C} {ps : List (Wk × C)} (h : Wks H c ps) (g : Grow H H') : Wks H' c ps := ⟨h.1.grow g, fun p hp => (h.2 p hp).grow g⟩
theorem Wks.len {H : Heap} {c : C} {ps : List (Wk × C)} (h : Wks H c ps) : C.len c = some ps.length := by have := Sl.len h.1; simpa using this
theorem Wks.nil (H : Heap) : Wks H .nilSlice [] := ⟨Sl.nil H 3, fun _ h => by cases h⟩
theorem Wks.read {H : Heap} {c : C} {ps : List (Wk × C)} (h : Wks H c ps) {j : Nat} {p : Wk × C} (hj : ps[j]? = some p) :
    ∃ q, C.elem 3 c (j : Int) = some q ∧ H.ld q.1 q.2 = some (.int .i64 p.1.f) ∧ H.ld q.1 (q.2 + 1) = some p.2 ∧ H.ld q.1 (q.2 + 1 + 1) = some (.bool p.1.b) ∧ Ints H p.2 p.1.st := by
  obtain ⟨q, h1, h2⟩ := Sl.elem h.1 (j := j) (r := rowW p) (by simp [hj])
  exact ⟨q, h1, h2 0 _ rfl, h2 1 _ rfl, h2 2 _ rfl, h.2 p (List.mem_of_getElem? hj)⟩

/-- two lists of numbers of their own -/
structure Two (H1 H : Heap) (c0 c1 : C) (a : List Int × List Int) : Prop where
  g : Grow H1 H
  o0 : OInts H H1.next c0 a.1
  o1 : OInts H H1.next c1 a.2
  ap : ∀ i, idOf c0 = some i → idOf c1 ≠ some i
theorem Two.set0 {lim : Nat} {H1 H : Heap} {c0 c1 : C} {a : List Int × List Int} (h : Two H1 H c0 c1 a) (hl : lim ≤ H1.next) {i : Int} (h0 : 0 ≤ i) (hi : i.toNat < a.1.length) (x : Int) :
    ∃ p H', C.elem 1 c0 i = some p ∧ H.st lim p.1 p.2 [.int .i64 x] = some H' ∧ Two H1 H' c0 c1 (a.1.set i.toNat x, a.2) := by
  obtain ⟨p, H', a1, a2, a3, a4, a5⟩ := h.o0.setI hl h0 hi x
  exact ⟨p, H', a1, a2, Own.kept_grow h.o0 h.g a4, a3, h.o1.kept a4 (apart_of h.ap), h.ap⟩
theorem Two.set1 {lim : Nat} {H1 H : Heap} {c0 c1 : C} {a : List Int × List Int} (h : Two H1 H c0 c1 a) (hl : lim ≤ H1.next) {i : Int} (h0 : 0 ≤ i) (hi : i.toNat < a.2.length) (x : Int) :
    ∃ p H', C.elem 1 c1 i = some p ∧ H.st lim p.1 p.2 [.int .i64 x] = some H' ∧ Two H1 H' c0 c1 (a.1, a.2.set i.toNat x) := by
  obtain ⟨p, H', a1, a2, a3, a4, a5⟩ := h.o1.setI hl h0 hi x
  exact ⟨p, H', a1, a2, Own.kept_grow h.o1 h.g a4, h.o0.kept a4 (apart_of fun i h1 h2 => h.ap i h2 h1), a3, h.ap⟩

/-! ### coverage, plainly -/
def bump (l : List Int) (i : Int) : List Int := l.set i.toNat (IntKind.wrap .i64 (l.getD i.toNat 0 + 1))
def cov1 (es : List E) (A : List Int × List Int) (k : Int) : List Int × List Int := (bump A.1 (toOf es k), bump A.2 k)
def covW (es : List E) (A : List Int × List Int) (w : Wk) : List Int × List Int := w.st.foldl (cov1 es) (bump A.1 w.f, A.2)
def cov (n : Nat) (es : List E) (ws : List Wk) : List Int × List Int := ws.foldl (covW es) (List.replicate n 0, List.replicate es.length 0)
theorem bump_length (l : List Int) (i : Int) : (bump l i).length = l.length := by simp [bump]
theorem cov1s_length (es : List E) : ∀ (st : List Int) (A : List Int × List Int), (st.foldl (cov1 es) A).1.length = A.1.length ∧ (st.foldl (cov1 es) A).2.length = A.2.length
  | [], A => ⟨rfl, rfl⟩
  | k :: st, A => by
    obtain ⟨h1, h2⟩ := cov1s_length es st (cov1 es A k)
    simp only [List.foldl_cons]
    exact ⟨by rw [h1]; simp [cov1, bump_length], by rw [h2]; simp [cov1, bump_length]⟩
theorem covW_length (es : List E) (A : List Int × List Int) (w : Wk) : (covW es A w).1.length = A.1.length ∧ (covW es A w).2.length = A.2.length := by
  obtain ⟨h1, h2⟩ := cov1s_length es w.st (bump A.1 w.f, A.2)
  exact ⟨by unfold covW; rw [h1, bump_length], by unfold covW; rw [h2]⟩
theorem covs_length (es : List E) : ∀ (ws : List Wk) (A : List Int × List Int), (ws.foldl (covW es) A).1.length = A.1.length ∧ (ws.foldl (covW es) A).2.length = A.2.length
  | [], A => ⟨rfl, rfl⟩
  | w :: ws, A => by
    obtain ⟨h1, h2⟩ := covs_length es ws (covW es A w)
    obtain ⟨k1, k2⟩ := covW_length es A w
    simp only [List.foldl_cons]
    exact ⟨by rw [h1, k1], by rw [h2, k2]⟩
theorem cov_length (n : Nat) (es : List E) (ws : List Wk) : (cov n es ws).1.length = n ∧ (cov n es ws).2.length = es.length := by
  obtain ⟨h1, h2⟩ := covs_length es ws (List.replicate n 0, List.replicate es.length 0)
  exact ⟨by unfold cov; rw [h1]; simp, by unfold cov; rw [h2]; simp⟩
/-- the walk stays in the graph -/
def wIn (N : Nat) (es : List E) (w : Wk) : Prop := 0 ≤ w.f ∧ w.f.toNat < N ∧ ∀ k ∈ w.st, okI es k

/-! ### coverage: the reference -/
section cov
variable {n : Int} {ci ce l c0 c1 y0 y1 : C} {es : List E} {ps : List (Wk × C)} {H0 : Heap}
theorem okI_lt {es : List E} {i : Int} (h : okI es i) : 0 ≤ i ∧ i.toNat < es.length := ⟨h.1, by obtain ⟨_, e, he⟩ := h; exact (List.getElem?_eq_some_iff.1 he).1⟩
theorem Eds.target2 {H : Heap} {ce : C} {es : List E} (he : Eds H ce es) {i : Int} (hi : okI es i) : ∃ q, C.elem 3 ce i = some q ∧ H.ld q.1 q.2 = some (.int .i64 (frOf es i)) ∧ H.ld q.1 (q.2 + 1) = some (.int .i64 (toOf es i)) := by
  obtain ⟨h0, e, hx⟩ := hi
  obtain ⟨q, h1, h2, h3, _⟩ := he.readI h0 hx
  exact ⟨q, h1, by simp only [frOf, hx]; exact h2, by simp only [toOf, hx]; exact h3⟩
theorem f35_2_is (hM : M.lim ≤ H0.next) {N : Nat} (he : Eds H0 ce es) (ge : goodE (N : Int) es) (hw : Wks H0 l ps) {j : Nat} {p : Wk × C} (hj : ps[j]? = some p) (hin : wIn N es p.1) (hst : p.1.st.length ≤ 1000000) : ∀ (d k : Nat) (H : Heap) (A : List Int × List Int), k + d = p.1.st.length →
    Two H0 H c0 c1 A → A.1.length = N → A.2.length = es.length →
    ∃ H', f35_2 M l n ci ce y0 y1 c0 c1 (j : Int) (k : Int) H = f35_1 M l n ci ce y0 y1 c0 c1 (IntKind.wrap .i64 ((j : Int) + 1)) H' ∧ Two H0 H' c0 c1 ((p.1.st.drop k).foldl (cov1 es) A) := by
  intro d
  induction d with
  | zero =>
    intro k H A hk h h1 h2
    obtain ⟨q, a1, a2, a3, a4, a5⟩ := (hw.grow h.g).read hj
    refine ⟨H, ?_, by rw [List.drop_of_length_le (by omega)]; exact h⟩
    rw [f35_2_eq]
    simp only [a1, a2, a3, a4, a5.len, Option.bind_some, show ¬ ((k : Int) < p.1.st.length) by omega, decide_false, Bool.false_eq_true, if_false]
  | succ d ih =>
    intro k H A hk h h1 h2
    have hlt : k < p.1.st.length := by omega
    obtain ⟨q, a1, a2, a3, a4, a5⟩ := (hw.grow h.g).read hj
    obtain ⟨q6, b1, b2⟩ := a5.read (List.getElem?_eq_getElem hlt)
    have hok : okI es p.1.st[k] := hin.2.2 _ (List.getElem_mem hlt)
    obtain ⟨k0, k1⟩ := okI_lt hok
    obtain ⟨t0, t1⟩ := toOf_in ge hok
    obtain ⟨q9, c1', c2'⟩ := h.o1.ints.readI k0 (getD_of (by rw [h2]; exact k1) 0)
    obtain ⟨q12, H13, d1, d2, d3⟩ := h.set1 (lim := M.lim) hM k0 (by rw [h2]; exact k1) (IntKind.wrap .i64 (A.2.getD p.1.st[k].toNat 0 + 1))
    rw [c1'] at d1; cases d1
    obtain ⟨q14, e1, e2, e3⟩ := (he.grow d3.g).target2 hok
    obtain ⟨q20, g1, g2⟩ := d3.o0.ints.readI t0 (getD_of (l := A.1) (by rw [h1]; exact t1) 0)
    obtain ⟨q23, H24, i1, i2, i3⟩ := d3.set0 (lim := M.lim) hM t0 (by rw [h1]; exact t1) (IntKind.wrap .i64 (A.1.getD (toOf es p.1.st[k]).toNat 0 + 1))
    rw [g1] at i1; cases i1
    obtain ⟨H', z1, z2⟩ := ih (k + 1) H24 (cov1 es A p.1.st[k]) (by omega) i3 (by simp [cov1, bump_length, h1]) (by simp [cov1, bump_length, h2])
    refine ⟨H', ?_, by rw [List.drop_eq_getElem_cons hlt, List.foldl_cons]; exact z2⟩
    rw [f35_2_eq]
    simp only [a1, a2, a3, a4, a5.len, Option.bind_some, show ((k : Int) < p.1.st.length) by omega, decide_true, if_true, b1, b2, asI_int, c1', c2', d2, e1, e2, e3, g1, g2, i2, wrap_succ (show k ≤ 1000000000 by omega)]
    exact z1
theorem f35_1_is (hM : M.lim ≤ H0.next) {N : Nat} (he : Eds H0 ce es) (ge : goodE (N : Int) es) (hw : Wks H0 l ps) (hin : ∀ p ∈ ps, wIn N es p.1 ∧ p.1.st.length ≤ 1000000) (hps : ps.length ≤ 1000000) : ∀ (d j : Nat) (H : Heap) (A : List Int × List Int), j + d = ps.length →
    Two H0 H c0 c1 A → A.1.length = N → A.2.length = es.length →
    ∃ H', f35_1 M l n ci ce y0 y1 c0 c1 (j : Int) H = some (.agg [c0, c1], H') ∧ Two H0 H' c0 c1 (((ps.drop j).map Prod.fst).foldl (covW es) A) := by
  intro d
  induction d with
  | zero =>
    intro j H A hj h h1 h2
    refine ⟨H, ?_, by rw [List.drop_of_length_le (by omega)]; exact h⟩
    rw [f35_1_eq]
    simp only [hw.len, Option.bind_some, show ¬ ((j : Int) < ps.length) by omega, decide_false, Bool.false_eq_true, if_false]
  | succ d ih =>
    intro j H A hj h h1 h2
    have hlt : j < ps.length := by omega
    have hp := List.getElem?_eq_getElem hlt
    obtain ⟨q, a1, a2, a3, a4, a5⟩ := (hw.grow h.g).read hp
    obtain ⟨w1, w2⟩ := hin _ (List.getElem_mem hlt)
    obtain ⟨q8, b1, b2⟩ := h.o0.ints.readI w1.1 (getD_of (by rw [h1]; exact w1.2.1) 0)
    obtain ⟨q11, H12, c1', c2', c3'⟩ := h.set0 (lim := M.lim) hM w1.1 (by rw [h1]; exact w1.2.1) (IntKind.wrap .i64 (A.1.getD ps[j].1.f.toNat 0 + 1))
    rw [b1] at c1'; cases c1'
    obtain ⟨H1, d1, d2⟩ := f35_2_is (M := M) (n := n) (ci := ci) (y0 := y0) (y1 := y1) hM he ge hw hp w1 w2 ps[j].1.st.length 0 H12 _ (by omega) c3' (by simp [h1]) h2
    have e0 : ((0 : Nat) : Int) = 0 := rfl
    rw [e0] at d1
    rw [List.drop_zero] at d2
    obtain ⟨k1, k2⟩ := cov1s_length es ps[j].1.st (A.1.set ps[j].1.f.toNat (IntKind.wrap .i64 (A.1.getD ps[j].1.f.toNat 0 + 1)), A.2)
    obtain ⟨H', z1, z2⟩ := ih (j + 1) H1 _ (by omega) d2 (by rw [k1]; simp [h1]) (by rw [k2]; exact h2)
    refine ⟨H', ?_, by rw [List.drop_eq_getElem_cons hlt, List.map_cons, List.foldl_cons]; exact z2⟩
    rw [f35_1_eq]
    simp only [hw.len, Option.bind_some, show ((j : Int) < ps.length) by omega, decide_true, if_true, a1, a2, asI_int, b1, b2, c2', d1, wrap_succ (show j ≤ 1000000000 by omega)]
    exact z1
theorem two_made (H : Heap) (N m : Nat) : Two H ((H.alloc (.cells 1 (List.replicate N [C.int .i64 0]).flatten)).alloc (.cells 1 (List.replicate m [C.int .i64 0]).flatten)) (.slice H.next 0 N) (.slice (H.next + 1) 0 m) (List.replicate N 0, List.replicate m 0) := by
  have h1 := Own.made H (Nat.le_refl H.next) (z := [C.int .i64 0]) (sz := 1) rfl N
  have h2 := Own.made (H.alloc (.cells 1 (List.replicate N [C.int .i64 0]).flatten)) (b := H.next) (by simp) (z := [C.int .i64 0]) (sz := 1) rfl m
  refine ⟨(Grow.alloc H _).trans (.alloc _ _), ?_, ?_, fun i hi => ?_⟩
  · have := h1.grow (.alloc _ (.cells 1 (List.replicate m [C.int .i64 0]).flatten))
    unfold OInts; rw [List.map_replicate]; exact this
  · unfold OInts; rw [List.map_replicate]; exact h2
  · cases hi; simp [idOf]
theorem f35_is {H : Heap} (hM : M.lim ≤ H.next) (hn : 0 ≤ n ∧ n ≤ 400) (he : Eds H ce es) (ge : goodE n es) (hes : es.length ≤ 1000000) (hw : Wks H l ps) (hin : ∀ p ∈ ps, wIn n.toNat es p.1 ∧ p.1.st.length ≤ 1000000) (hps : ps.length ≤ 1000000) :
    ∃ c0 c1 H', f35 M n ci ce l H = some (.agg [c0, c1], H') ∧ Two H H' c0 c1 (cov n.toNat es (ps.map Prod.fst)) := by
  obtain ⟨N, rfl⟩ := Int.eq_ofNat_of_zero_le hn.1
  simp only [Int.toNat_natCast] at hin ⊢
  have ht := two_made H N es.length
  obtain ⟨H', a1, a2⟩ := f35_1_is (M := M) (n := (N : Int)) (ci := ci) (y0 := .nilSlice) (y1 := .nilSlice) hM he ge hw hin hps ps.length 0 _ _ (by omega) ht (by simp) (by simp)
  have e0 : ((0 : Nat) : Int) = 0 := rfl
  rw [e0] at a1
  refine ⟨_, _, H', ?_, by rw [List.drop_zero] at a2; exact a2⟩
  rw [f35_eq]
  simp only [show (0 : Int) ≤ (N : Int) ∧ (N : Int) ≤ 2 ^ 36 by omega, and_self, if_true, he.len, Option.bind_some, show (0 : Int) ≤ (es.length : Int) ∧ (es.length : Int) ≤ 2 ^ 36 by omega, Int.toNat_natCast]
  exact a1
end cov

/-! ### steps that are not covered: the reference -/
section unc
variable {n : Int} {ci ce l cf c0 c1 : C} {es : List E} {H0 : Heap}
def unc (es : List E) (far T : List Int) : Nat → List E → List Int
  | _, [] => []
  | k, e :: r => if far.getD e.f.toNat 0 ≠ -1 ∧ T.getD k 0 = 0 then (k : Int) :: unc es far T (k + 1) r else unc es far T (k + 1) r
theorem f33_1_is (hM : M.lim ≤ H0.next) {N : Nat} (he : Eds H0 ce es) (ge : goodE (N : Int) es) (hes : es.length ≤ 1000000) {far T : List Int} (hf : Ints H0 cf far) (hfl : far.length = N) (hT : Ints H0 c1 T) (hTl : T.length = es.length) : ∀ (d k : Nat) (H : Heap) (out : C) (acc : List Int), k + d = es.length → Grow H0 H → OInts H H0.next out acc → acc.length ≤ k →
    ∃ c H', f33_1 M n ci ce cf c0 c1 out (k : Int) H = some (.c c, H') ∧ Grow H0 H' ∧ OInts H' H0.next c (acc ++ unc es far T k (es.drop k)) := by
  intro d
  induction d with
  | zero =>
    intro k H out acc hk g h hacc
    refine ⟨out, H, ?_, g, by rw [List.drop_of_length_le (by omega)]; simpa [unc] using h⟩
    rw [f33_1_eq]
    simp only [he.len, Option.bind_some, show ¬ ((k : Int) < es.length) by omega, decide_false, Bool.false_eq_true, if_false]
  | succ d ih =>
    intro k H out acc hk g h hacc
    have hlt : k < es.length := by omega
    obtain ⟨q, b1, b2, b3, b4⟩ := (he.grow g).read (List.getElem?_eq_getElem hlt)
    obtain ⟨⟨hf0, hf1⟩, _⟩ := ge _ (List.getElem_mem hlt)
    obtain ⟨q5, c1', c2'⟩ := (hf.grow g).readI hf0 (getD_of (l := far) (i := es[k].f.toNat) (by omega) 0)
    obtain ⟨q9, d1, d2⟩ := (hT.grow g).read (getD_of (l := T) (i := k) (by omega) 0)
    rw [f33_1_eq, List.drop_eq_getElem_cons hlt]
    simp only [he.len, Option.bind_some, show ((k : Int) < es.length) by omega, decide_true, if_true, b1, b2, asI_int, c1', c2', unc]
    by_cases hz : far.getD es[k].f.toNat 0 = -1
    · obtain ⟨c, H', i1, i2, i3⟩ := ih (k + 1) H out acc (by omega) g h (by omega)
      refine ⟨c, H', ?_, i2, by rw [if_neg (fun h => h.1 hz)]; exact i3⟩
      simp only [hz, decide_true, Bool.not_true, Bool.false_eq_true, if_false, Option.bind_some]
      rw [f33_2_eq, wrap_succ (show k ≤ 1000000000 by omega)]; exact i1
    · by_cases ht : T.getD k 0 = 0
      · obtain ⟨k1, c', H1, k2, k3, k4, k5⟩ := h.append1 (lim := M.lim) hM (k : Int) (by omega)
        obtain ⟨c, H', i1, i2, i3⟩ := ih (k + 1) H1 c' _ (by omega) (Own.kept_grow h g k4) k3 (by simp; omega)
        refine ⟨c, H', ?_, i2, by rw [if_pos ⟨hz, ht⟩]; simpa using i3⟩
        simp only [hz, decide_false, Bool.not_false, if_true, d1, d2, Option.bind_some, asI_int, ht, decide_true, k1, k2]
        rw [f33_2_eq, wrap_succ (show k ≤ 1000000000 by omega)]; exact i1
      · obtain ⟨c, H', i1, i2, i3⟩ := ih (k + 1) H out acc (by omega) g h (by omega)
        refine ⟨c, H', ?_, i2, by rw [if_neg (fun h => ht h.2)]; exact i3⟩
        simp only [hz, decide_false, Bool.not_false, if_true, d1, d2, Option.bind_some, asI_int, ht, Bool.false_eq_true, if_false]
        rw [f33_2_eq, wrap_succ (show k ≤ 1000000000 by omega)]; exact i1
theorem f33_is {H : Heap} (hM : M.lim ≤ H.next) {il : List Int} {ps : List (Wk × C)} (hn : 0 ≤ n ∧ n ≤ 400) (hi : Ints H ci il) (hil : il.length ≤ 1000000) (he : Eds H ce es) (ge : goodE n es) (hes : es.length ≤ 1000000) (hw : Wks H l ps) (hin : ∀ p ∈ ps, wIn n.toNat es p.1 ∧ p.1.st.length ≤ 1000000) (hps : ps.length ≤ 1000000) :
    ∃ c H', f33 M n ci ce l H = some (.c c, H') ∧ Grow H H' ∧ OInts H' H.next c (unc es (rnds es n.toNat 0 (dist0 n.toNat il)) (cov n.toNat es (ps.map Prod.fst)).2 0 es) := by
  obtain ⟨cf, H1, a1, a2, a3⟩ := f22_is (M := M) (n := n) hM hn hi hil he ge hes
  obtain ⟨c0, c1, H2, b1, b2⟩ := f35_is (M := M) (n := n) (ci := ci) (Nat.le_trans hM a2.next) hn (he.grow a2) ge hes (hw.grow a2) hin hps
  have hnn : ((n.toNat : Nat) : Int) = n := by omega
  obtain ⟨cl, ct⟩ := cov_length n.toNat es (ps.map Prod.fst)
  have g2 := a2.trans b2.g
  obtain ⟨c, H3, d1, d2, d3⟩ := f33_1_is (M := M) (n := n) (ci := ci) (c0 := c0) (N := n.toNat) (Nat.le_trans hM g2.next) (he.grow g2) (by rw [hnn]; exact ge) hes (a3.ints.grow b2.g) (by rw [rnds_length]; simp [dist0]) b2.o1.ints ct es.length 0 H2 .nilSlice [] (by omega) (.refl _) (Own.nil (Nat.le_refl _) 1) (by simp)
  have e0 : ((0 : Nat) : Int) = 0 := rfl
  rw [e0] at d1
  refine ⟨c, H3, ?_, g2.trans d2, Own.low (by rw [List.nil_append, List.drop_zero] at d3; exact d3) g2.next⟩
  rw [f33_eq]
  simp only [a1, Option.bind_some, asC_c, b1, asA_agg, headC_cons, List.drop_succ_cons, List.drop_zero, List.length_nil, if_true]
  exact d1
end unc

/-! ### walks are checked: the reference -/
section werr
variable {n : Int} {ci ce l : C} {es : List E} {H0 : Heap} {il : List Int} {ps : List (Wk × C)}
def firstBad (n : Int) (il : List Int) (es : List E) : List Wk → Int
  | [] => 0
  | w :: ws => if (checkRes n il es w.f w.st).2 ≠ 0 then (checkRes n il es w.f w.st).2 else firstBad n il es ws
theorem f34_1_is (hi : Ints H0 ci il) (he : Eds H0 ce es) (h0 : il.length ≤ 1000000) (h1 : es.length ≤ 1000000) (hw : Wks H0 l ps) (hps : ps.length ≤ 1000000) (hin : ∀ p ∈ ps, p.1.st.length ≤ 1000000) : ∀ (d j : Nat) (H : Heap), j + d = ps.length → Grow H0 H →
    ∃ H', f34_1 M l n ci ce (j : Int) H = some (.c (.int .i64 (firstBad n il es ((ps.drop j).map Prod.fst))), H') ∧ Grow H0 H' := by
  intro d
  induction d with
  | zero =>
    intro j H hj g
    refine ⟨H, ?_, g⟩
    rw [f34_1_eq, List.drop_of_length_le (by omega)]
    simp only [hw.len, Option.bind_some, show ¬ ((j : Int) < ps.length) by omega, decide_false, Bool.false_eq_true, if_false]
    rfl
  | succ d ih =>
    intro j H hj g
    have hlt : j < ps.length := by omega
    obtain ⟨q, a1, a2, a3, a4, a5⟩ := (hw.grow g).read (List.getElem?_eq_getElem hlt)
    obtain ⟨H1, b1, b2⟩ := f31_is (M := M) (n := n) (x := ps[j].1.f) (b := ps[j].1.b) (hi.grow g) (he.grow g) a5 h0 h1 (hin _ (List.getElem_mem hlt))
    obtain ⟨H2, z1, z2⟩ := ih (j + 1) H1 (by omega) (g.trans b2)
    rw [f34_1_eq, List.drop_eq_getElem_cons hlt]
    simp only [hw.len, Option.bind_some, show ((j : Int) < ps.length) by omega, decide_true, if_true, a1, a2, a3, a4, asI_int, asB_bool, b1, pairV, ext_tuple, List.getElem?_cons_zero, List.getElem?_cons_succ, asC_c, List.map_cons, firstBad, wrap_succ (show j ≤ 1000000000 by omega)]
    by_cases hz : (checkRes n il es ps[j].1.f ps[j].1.st).2 = 0
    · refine ⟨H2, ?_, z2⟩
      simp only [hz, decide_true, Bool.not_true, Bool.false_eq_true, if_false, ne_eq, not_true]
      exact z1
    · refine ⟨H1, ?_, g.trans b2⟩
      simp only [hz, decide_false, Bool.not_false, if_true, ne_eq, not_false_iff]
theorem f34_is {H : Heap} (hi : Ints H ci il) (he : Eds H ce es) (h0 : il.length ≤ 1000000) (h1 : es.length ≤ 1000000) (hw : Wks H l ps) (hps : ps.length ≤ 1000000) (hin : ∀ p ∈ ps, p.1.st.length ≤ 1000000) :
    ∃ H', f34 M n ci ce l H = some (.c (.int .i64 (if isGraph n il es = true then (if 60 < ps.length then 2 else firstBad n il es (ps.map Prod.fst)) else 5)), H') ∧ Grow H H' := by
  obtain ⟨H1, a1, a2⟩ := f20_is (M := M) (n := n) hi he h0 h1
  rw [f34_eq]
  simp only [a1, Option.bind_some, asC_c, asB_bool]
  cases hg : isGraph n il es with
  | false =>
    refine ⟨H1, ?_, a2⟩
    simp
  | true =>
    simp only [Bool.not_true, Bool.false_eq_true, if_false, if_true, hw.len, Option.bind_some]
    by_cases hl : 60 < ps.length
    · refine ⟨H1, ?_, a2⟩
      simp only [show (60 : Int) < ps.length by omega, hl, decide_true, if_true]
    · obtain ⟨H2, b1, b2⟩ := f34_1_is (M := M) (n := n) (hi.grow a2) (he.grow a2) h0 h1 (hw.grow a2) hps hin ps.length 0 H1 (by omega) (.refl _)
      have e0 : ((0 : Nat) : Int) = 0 := rfl
      rw [e0, List.drop_zero] at b1
      refine ⟨H2, ?_, a2.trans b2⟩
      simp only [show ¬ (60 : Int) < ps.length by omega, hl, decide_false, Bool.false_eq_true, if_false]
      exact b1
end werr
end Go.Proofs.Ytnnjklkfcleleaa.R
