/-
  CHAPTER 20: graphs: which are right; copies; walks that are checked.
-/
import Derived.Test.YtnnjklkfcleleaaWa
namespace Go.Proofs.Ytnnjklkfcleleaa.R
open Go Go.Proofs.Ytnnjklkfcleleaa.Vm
set_option linter.unusedVariables false
set_option linter.unusedSimpArgs false
variable {M : Mach}

structure E where
  f : Int
  t : Int
  a : Int
def rowE (e : E) : List C := [.int .i64 e.f, .int .i64 e.t, .int .i64 e.a]
def Eds (H : Heap) (c : C) (es : List E) : Prop := Sl H c 3 (es.map rowE)
theorem Eds.grow {H H' : Heap} {c : C} {es : List E} (h : Eds H c es) (g : Grow H H') : Eds H' c es := Sl.grow h g
theorem Eds.len {H : Heap} {c : C} {es : List E} (h : Eds H c es) : C.len c = some es.length := by have := Sl.len h; simpa using this
theorem Eds.read {H : Heap} {c : C} {es : List E} (h : Eds H c es) {j : Nat} {e : E} (hj : es[j]? = some e) :
    ∃ q, C.elem 3 c (j : Int) = some q ∧ H.ld q.1 q.2 = some (.int .i64 e.f) ∧ H.ld q.1 (q.2 + 1) = some (.int .i64 e.t) ∧ H.ld q.1 ((q.2 + 1) + 1) = some (.int .i64 e.a) := by
  obtain ⟨q, h1, h2⟩ := Sl.elem h (j := j) (r := rowE e) (by simp [hj])
  exact ⟨q, h1, h2 0 _ rfl, h2 1 _ rfl, h2 2 _ rfl⟩
theorem Eds.readI {H : Heap} {c : C} {es : List E} (h : Eds H c es) {i : Int} (h0 : 0 ≤ i) {e : E} (hj : es[i.toNat]? = some e) :
    ∃ q, C.elem 3 c i = some q ∧ H.ld q.1 q.2 = some (.int .i64 e.f) ∧ H.ld q.1 (q.2 + 1) = some (.int .i64 e.t) ∧ H.ld q.1 ((q.2 + 1) + 1) = some (.int .i64 e.a) := by
  have := h.read hj
  rwa [Int.toNat_of_nonneg h0] at this

theorem wrap_succ {k : Nat} (h : k ≤ 1000000000) : IntKind.wrap .i64 ((k : Int) + 1) = ((k + 1 : Nat) : Int) := by rw [wrap_in (by omega) (by omega)]; simp
theorem wrap_pred {k : Nat} (h : k ≤ 1000000000) (h1 : 1 ≤ k) : IntKind.wrap .i64 ((k : Int) - 1) = ((k - 1 : Nat) : Int) := by rw [wrap_in (by omega) (by omega)]; omega

/-! ### comparing -/
def cmp2 (x y : Int) : Int := if x < y then -1 else if y < x then 1 else 0
theorem f65_is (x y : Int) (H : Heap) : f65 M x y H = some (.c (.int .i64 (cmp2 x y)), H) := by
  rw [f65_eq]
  simp only [f74_eq, Option.bind_some, asC_c, asB_bool, decide_true, Bool.not_true, Bool.false_eq_true, if_false, decide_eq_true_eq, cmp2]
  split
  · rfl
  · split <;> rfl
theorem f64_1_is {c : C} {l : List Int} {H : Heap} (h : Ints H c l) (hn : l.length ≤ 1000000) : ∀ (d k : Nat), k + d = l.length → f64_1 M 0 c (l.length : Int) (k : Int) H = some (.c (.int .i64 (firstErr (l.drop k))), H) := by
  intro d
  induction d with
  | zero =>
    intro k hk
    rw [f64_1_eq, List.drop_of_length_le (by omega)]
    simp [show ¬ ((k : Int) < l.length) by omega, firstErr]
  | succ d ih =>
    intro k hk
    have hlt : k < l.length := by omega
    obtain ⟨q, h1, h2⟩ := h.read (List.getElem?_eq_getElem hlt)
    rw [f64_1_eq, List.drop_eq_getElem_cons hlt]
    simp only [show ((k : Int) < l.length) by omega, decide_true, if_true, h1, h2, Option.bind_some, asI_int, firstErr, wrap_succ (show k ≤ 1000000000 by omega)]
    by_cases h0 : l[k] = 0
    · simp only [h0, decide_true, Bool.not_true, Bool.false_eq_true, if_false, if_true]
      exact ih (k + 1) (by omega)
    · simp [h0]
theorem f64_is {c : C} {l : List Int} {H : Heap} (h : Ints H c l) (hn : l.length ≤ 1000000) : f64 M c H = some (.c (.int .i64 (firstErr l)), H) := by
  rw [f64_eq]
  simp only [h.len, Option.bind_some]
  exact f64_1_is h hn l.length 0 (by omega)
def cmpE (a b : E) : Int := firstErr [cmp2 a.f b.f, cmp2 a.t b.t, cmp2 a.a b.a]
theorem f63_is (a b : E) (H : Heap) : ∃ H', f63 M a.f a.t a.a b.f b.t b.a H = some (.c (.int .i64 (cmpE a b)), H') ∧ Grow H H' := by
  rw [f63_eq]
  have hl := OInts.lit H (Nat.le_refl H.next) [cmp2 a.f b.f, cmp2 a.t b.t, cmp2 a.a b.a] rfl (n := 3) rfl
  have he := f64_is (M := M) hl.ints (by simp)
  simp only [List.map_cons, List.map_nil] at he
  simp only [f65_is, Option.bind_some, asC_c, asI_int, he]
  exact ⟨_, rfl, .alloc _ _⟩
theorem f69_is (b : Bool) (H : Heap) : f69 M b H = some (.c (.int .i64 (if b then 1 else 0)), H) := by
  rw [f69_eq]; cases b <;> simp
theorem f50_is (x y z : Int) (H : Heap) : ∃ c H', f50 M x y z H = some (.c c, H') ∧ Grow H H' ∧ Ints H' c [x, y, z] := by
  rw [f50_eq]
  exact ⟨_, _, rfl, .alloc _ _, (OInts.lit H (Nat.le_refl H.next) [x, y, z] rfl (n := 3) rfl).ints⟩
theorem f49_1_is {a b : C} {l l' : List Int} {H : Heap} (ha : Ints H a l) (hb : Ints H b l') (hl : l.length = l'.length) (hn : l.length ≤ 1000000) : ∀ (d k : Nat), k + d = l.length →
    f49_1 M a b (k : Int) H = some (.c (.int .i64 (firstErr (List.zipWith cmp2 (l.drop k) (l'.drop k)))), H) := by
  intro d
  induction d with
  | zero =>
    intro k hk
    rw [f49_1_eq]
    simp only [ha.len, hb.len, show ¬ ((k : Int) < l.length) by omega, Option.bind_some, decide_false, Bool.false_eq_true, if_false, List.drop_of_length_le (show l.length ≤ k by omega), List.zipWith_nil_left, firstErr, f69_is,
      show ¬ ((l'.length : Int) < l.length) by omega, show ¬ ((l.length : Int) < l'.length) by omega, asC_c, asI_int]
    rfl
  | succ d ih =>
    intro k hk
    have h1 : k < l.length := by omega
    have h2 : k < l'.length := by omega
    obtain ⟨q, c1, c2⟩ := ha.read (List.getElem?_eq_getElem h1)
    obtain ⟨q', c3, c4⟩ := hb.read (List.getElem?_eq_getElem h2)
    rw [f49_1_eq]
    simp only [ha.len, hb.len, show ((k : Int) < l.length) by omega, show ((k : Int) < l'.length) by omega, decide_true, if_true, c1, c2, c3, c4, Option.bind_some, asI_int, wrap_succ (show k ≤ 1000000000 by omega)]
    rw [List.drop_eq_getElem_cons h1, List.drop_eq_getElem_cons h2]
    simp only [List.zipWith_cons_cons, firstErr]
    by_cases h0 : l[k] = l'[k]
    · have h3 : cmp2 l[k] l'[k] = 0 := by simp [cmp2, h0]
      simp only [h0, decide_true, Bool.not_true, Bool.false_eq_true, if_false, ih (k + 1) (by omega)]
      simp [cmp2]
    · simp only [h0, decide_false, Bool.not_false, if_true, f69_is, Option.bind_some, asC_c, asI_int]
      by_cases h4 : l[k] < l'[k]
      · have h3 : cmp2 l[k] l'[k] = -1 := by simp [cmp2, h4]
        simp only [h4, h3, decide_true, if_true]; rfl
      · have h3 : cmp2 l[k] l'[k] = 1 := by simp only [cmp2, h4, if_false]; rw [if_pos (by omega)]
        simp only [h4, h3, decide_false, Bool.false_eq_true, if_false]; rfl
theorem f49_is {a b : C} {l l' : List Int} {H : Heap} (ha : Ints H a l) (hb : Ints H b l') (hl : l.length = l'.length) (hn : l.length ≤ 1000000) : f49 M a b H = some (.c (.int .i64 (firstErr (List.zipWith cmp2 l l'))), H) := by
  rw [f49_eq]
  exact f49_1_is ha hb hl hn l.length 0 (by omega)

/-! ### which graphs are right -/
def stOK (n x : Int) : Bool := decide (0 ≤ x ∧ x ≤ n - 1)
def initOK (n : Int) : Option Int → List Int → Bool
  | _, [] => true
  | p, x :: l => stOK n x && p.all (fun y => decide (y < x)) && initOK n (some x) l
def edgeOK (n : Int) (e : E) : Bool := stOK n e.f && stOK n e.t && decide (0 ≤ e.a ∧ e.a ≤ 11)
def edgesOK (n : Int) : Option E → List E → Bool
  | _, [] => true
  | p, e :: es => edgeOK n e && p.all (fun d => decide (cmpE d e < 0)) && edgesOK n (some e) es
def prev {α : Type} (l : List α) (k : Nat) : Option α := if k = 0 then none else l[k - 1]?
theorem prev_succ {α : Type} {l : List α} {k : Nat} (h : k < l.length) : prev l (k + 1) = some l[k] := by
  unfold prev; simp [h]

theorem f20_1_is {n : Int} (hn0 : 0 ≤ n) (hn1 : n ≤ 400) {ci ce : C} {l : List Int} {H : Heap} (h : Ints H ci l) (hl : l.length ≤ 1000000) : ∀ (d k : Nat), k + d = l.length →
    f20_1 M n ci ce (k : Int) H = if initOK n (prev l k) (l.drop k) then f20_2 M n ci ce 0 H else some (.c (.bool false), H) := by
  intro d
  induction d with
  | zero =>
    intro k hk
    rw [f20_1_eq]
    simp only [h.len, show ¬ ((k : Int) < l.length) by omega, Option.bind_some, decide_false, Bool.false_eq_true, if_false, List.drop_of_length_le (show l.length ≤ k by omega), initOK, if_true]
  | succ d ih =>
    intro k hk
    have h1 : k < l.length := by omega
    obtain ⟨q, c1, c2⟩ := h.read (List.getElem?_eq_getElem h1)
    rw [f20_1_eq, List.drop_eq_getElem_cons h1]
    have hw : IntKind.wrap .i64 (n - 1) = n - 1 := wrap_in (by omega) (by omega)
    have ih' := ih (k + 1) (by omega)
    rw [prev_succ h1] at ih'
    simp only [h.len, show ((k : Int) < l.length) by omega, decide_true, if_true, c1, c2, Option.bind_some, asI_int, f13_is, hw, asC_c, asB_bool, wrap_succ (show k ≤ 1000000000 by omega), initOK, stOK]
    by_cases hs : 0 ≤ l[k] ∧ l[k] ≤ n - 1
    · simp only [hs, and_self, decide_true, Bool.not_true, if_true, Bool.true_and]
      by_cases hk0 : k = 0
      · subst hk0
        simp only [prev, if_true, Option.all_none, Bool.true_and]
        simpa using ih'
      · have hp : prev l k = some l[k - 1] := by unfold prev; rw [if_neg hk0]; exact List.getElem?_eq_getElem _
        obtain ⟨q', c3, c4⟩ := h.read (j := k - 1) (List.getElem?_eq_getElem (by omega))
        simp only [hp, Option.all_some, show ((0 : Int) < k) by omega, decide_true, if_true, wrap_pred (show k ≤ 1000000000 by omega) (by omega), c3, c4, Option.bind_some, asI_int]
        by_cases hlt : l[k - 1] < l[k]
        · simp only [hlt, show ¬ (l[k] ≤ l[k - 1]) by omega, decide_true, decide_false, Bool.false_eq_true, if_false, Bool.true_and]
          exact ih'
        · simp only [hlt, show l[k] ≤ l[k - 1] by omega, decide_true, decide_false, if_true, Bool.false_and, Bool.false_eq_true, if_false]
    · simp only [hs, decide_false, Bool.not_false, Bool.true_eq_false, if_false, Option.bind_some, if_true, Bool.false_and, Bool.false_eq_true]

theorem f20_2_is {n : Int} (hn0 : 0 ≤ n) (hn1 : n ≤ 400) {ci ce : C} {es : List E} (hl : es.length ≤ 1000000) : ∀ (d k : Nat) (H : Heap), Eds H ce es → k + d = es.length →
    ∃ H', f20_2 M n ci ce (k : Int) H = some (.c (.bool (edgesOK n (prev es k) (es.drop k))), H') ∧ Grow H H' := by
  intro d
  induction d with
  | zero =>
    intro k H h hk
    rw [f20_2_eq]
    simp only [h.len, show ¬ ((k : Int) < es.length) by omega, Option.bind_some, decide_false, Bool.false_eq_true, if_false, List.drop_of_length_le (show es.length ≤ k by omega), edgesOK]
    exact ⟨H, rfl, .refl _⟩
  | succ d ih =>
    intro k H h hk
    have h1 : k < es.length := by omega
    obtain ⟨q, c1, c2, c3, c4⟩ := h.read (List.getElem?_eq_getElem h1)
    rw [f20_2_eq, List.drop_eq_getElem_cons h1]
    have hw : IntKind.wrap .i64 (n - 1) = n - 1 := wrap_in (by omega) (by omega)
    simp only [h.len, show ((k : Int) < es.length) by omega, decide_true, if_true, c1, c2, c3, c4, Option.bind_some, asI_int, f13_is, hw, asC_c, asB_bool, wrap_succ (show k ≤ 1000000000 by omega), edgesOK, edgeOK, stOK]
    by_cases hs : 0 ≤ es[k].f ∧ es[k].f ≤ n - 1
    rotate_left
    · simp only [hs, decide_false, Bool.not_false, Bool.true_eq_false, if_false, Option.bind_some, if_true, Bool.false_and, Bool.false_eq_true]
      exact ⟨H, rfl, .refl _⟩
    by_cases ht : 0 ≤ es[k].t ∧ es[k].t ≤ n - 1
    rotate_left
    · simp only [hs, ht, and_self, decide_true, decide_false, Bool.not_true, Bool.not_false, Bool.true_eq_false, if_false, Option.bind_some, if_true, Bool.false_and, Bool.and_false, Bool.false_eq_true]
      exact ⟨H, rfl, .refl _⟩
    by_cases ha : 0 ≤ es[k].a ∧ es[k].a ≤ 11
    rotate_left
    · simp only [hs, ht, ha, and_self, decide_true, decide_false, Bool.not_true, Bool.not_false, Bool.true_eq_false, if_false, Option.bind_some, if_true, Bool.false_and, Bool.and_false, Bool.false_eq_true]
      exact ⟨H, rfl, .refl _⟩
    simp only [hs, ht, ha, and_self, decide_true, Bool.not_true, if_true, Option.bind_some, Bool.true_and]
    by_cases hk0 : k = 0
    · subst hk0
      obtain ⟨H', i1, i2⟩ := ih 1 H h (by omega)
      refine ⟨H', ?_, i2⟩
      rw [show prev es 1 = some es[0] from prev_succ h1] at i1
      simp only [prev, if_true, Option.all_none, Bool.true_and]
      simpa using i1
    · have hp : prev es k = some es[k - 1] := by unfold prev; rw [if_neg hk0]; exact List.getElem?_eq_getElem _
      obtain ⟨q', d1, d2, d3, d4⟩ := h.read (j := k - 1) (List.getElem?_eq_getElem (by omega))
      obtain ⟨c5, H5, e1, e2, e3⟩ := f50_is (M := M) es[k - 1].f es[k - 1].t es[k - 1].a H
      obtain ⟨c6, H6, e4, e5, e6⟩ := f50_is (M := M) es[k].f es[k].t es[k].a H5
      have e7 := f49_is (M := M) (e3.grow e5) e6 rfl (by simp)
      have e8 : firstErr (List.zipWith cmp2 [es[k - 1].f, es[k - 1].t, es[k - 1].a] [es[k].f, es[k].t, es[k].a]) = cmpE es[k - 1] es[k] := rfl
      rw [e8] at e7
      simp only [hp, Option.all_some, show ((0 : Int) < k) by omega, decide_true, if_true, wrap_pred (show k ≤ 1000000000 by omega) (by omega), d1, d2, d3, d4, Option.bind_some, asI_int, asC_c, e1, e4, e7]
      by_cases hlt : cmpE es[k - 1] es[k] < 0
      · obtain ⟨H', i1, i2⟩ := ih (k + 1) H6 (h.grow (e2.trans e5)) (by omega)
        rw [prev_succ h1] at i1
        refine ⟨H', ?_, (e2.trans e5).trans i2⟩
        simp only [hlt, show ¬ (0 ≤ cmpE es[k - 1] es[k]) by omega, decide_true, decide_false, Bool.false_eq_true, if_false, Bool.true_and]
        exact i1
      · refine ⟨H6, ?_, e2.trans e5⟩
        simp only [hlt, show 0 ≤ cmpE es[k - 1] es[k] by omega, decide_true, decide_false, if_true, Bool.false_and]

def isGraph (n : Int) (init : List Int) (es : List E) : Bool := decide (0 ≤ n ∧ n ≤ 400) && decide (es.length ≤ 2000) && initOK n none init && edgesOK n none es
theorem initOK_len {n : Int} : ∀ {l : List Int} {p : Int}, 0 ≤ p → initOK n (some p) l = true → (l.length : Int) ≤ n - 1 - p ∨ l = []
  | [], p, _, _ => .inr rfl
  | x :: l, p, hp, h => by
    simp only [initOK, stOK, Bool.and_eq_true, decide_eq_true_eq, Option.all_some] at h
    obtain ⟨⟨⟨h1, h2⟩, h3⟩, h4⟩ := h
    rcases initOK_len (p := x) (by omega) h4 with h5 | rfl
    · left; simp only [List.length_cons]; push_cast; omega
    · left; simp; omega
theorem initOK_le {n : Int} (hn : 0 ≤ n) {l : List Int} (h : initOK n none l = true) : (l.length : Int) ≤ n := by
  cases l with
  | nil => simpa using hn
  | cons x l =>
    simp only [initOK, stOK, Bool.and_eq_true, decide_eq_true_eq, Option.all_none, and_true] at h
    rcases initOK_len (p := x) h.1.1 h.2 with h5 | rfl
    · simp only [List.length_cons]; push_cast; omega
    · simp; omega
theorem f20_is {n : Int} {ci ce : C} {l : List Int} {es : List E} {H : Heap} (hi : Ints H ci l) (he : Eds H ce es) (h1 : l.length ≤ 1000000) (h2 : es.length ≤ 1000000) :
    ∃ H', f20 M n ci ce H = some (.c (.bool (isGraph n l es)), H') ∧ Grow H H' := by
  rw [f20_eq]
  simp only [f13_is, Option.bind_some, asC_c, asB_bool, isGraph]
  by_cases hn : 0 ≤ n ∧ n ≤ 400
  rotate_left
  · simp only [hn, decide_false, Bool.not_false, Bool.true_eq_false, if_false, Option.bind_some, if_true, Bool.false_and]
    exact ⟨H, rfl, .refl _⟩
  simp only [hn, and_self, decide_true, Bool.not_true, if_true, hi.len, he.len, Option.bind_some, Bool.true_and]
  by_cases hl : n < (l.length : Int)
  · have : initOK n none l = false := by
      cases hc : initOK n none l with
      | false => rfl
      | true => have := initOK_le hn.1 hc; omega
    simp only [hl, this, decide_true, Bool.true_eq_false, if_false, Option.bind_some, if_true, Bool.and_false, Bool.false_and]
    exact ⟨H, rfl, .refl _⟩
  simp only [hl, decide_false, if_true, Option.bind_some]
  by_cases hel : es.length ≤ 2000
  rotate_left
  · simp only [hel, show (2000 : Int) < es.length by omega, decide_true, decide_false, if_true, Bool.false_and]
    exact ⟨H, rfl, .refl _⟩
  simp only [hel, show ¬ ((2000 : Int) < es.length) by omega, decide_true, decide_false, Bool.false_eq_true, if_false, Bool.true_and]
  have f1 := f20_1_is (M := M) hn.1 hn.2 (ce := ce) hi h1 l.length 0 (by omega)
  simp only [prev, if_true, List.drop_zero] at f1
  have f1' : f20_1 M n ci ce 0 H = _ := f1
  rw [f1']
  cases hin : initOK n none l with
  | false => simp only [Bool.false_eq_true, if_false, Bool.false_and]; exact ⟨H, rfl, .refl _⟩
  | true =>
    obtain ⟨H', f2, f3⟩ := f20_2_is (M := M) hn.1 hn.2 (ci := ci) h2 es.length 0 H he (by omega)
    simp only [prev, if_true, List.drop_zero] at f2
    simp only [if_true, Bool.true_and]
    exact ⟨H', f2, f3⟩
end Go.Proofs.Ytnnjklkfcleleaa.R
