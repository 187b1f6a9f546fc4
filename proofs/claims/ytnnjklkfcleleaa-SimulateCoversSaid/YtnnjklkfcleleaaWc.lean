/-
  CHAPTER 20: the program's own check of graphs and walks, copies, and the law of checks.
-/
import Derived.Test.YtnnjklkfcleleaaWb
namespace Go.Proofs.Ytnnjklkfcleleaa.R
open Go Go.Proofs.Ytnnjklkfcleleaa.Vm
set_option linter.unusedVariables false
set_option linter.unusedSimpArgs false
variable {M : Mach}

theorem ld_of {H : Heap} {p z : Nat} {cs : List C} (h : H.get p = some (.cells z cs)) (k : Nat) : H.ld p k = cs[k]? := by simp [Heap.ld, h]
theorem mcall62 (x : Int) (c : C) (H : Heap) : mcall M 62 [.c (.int .i64 x), .c c] H = f62 M x c H := rfl
theorem mcall63 (a b : E) (H : Heap) : mcall M 63 [.agg [.int .i64 a.f, .int .i64 a.t, .int .i64 a.a], .agg [.int .i64 b.f, .int .i64 b.t, .int .i64 b.a]] H = f63 M a.f a.t a.a b.f b.t b.a H := rfl
theorem f62_is {p : Nat} {n x : Int} {ci ce : C} {H : Heap} (h : H.get p = some (.cells 3 [.int .i64 n, ci, ce])) (h0 : 0 ≤ n) (h1 : n ≤ 400) : f62 M x (.ptr p 0) H = some (.c (.bool (stOK n x)), H) := by
  rw [f62_eq]
  have hw : IntKind.wrap .i64 (n - 1) = n - 1 := wrap_in (by omega) (by omega)
  simp only [asP_ptr, Option.bind_some, ld_of h, List.getElem?_cons_zero, asI_int, f44_is, asC_c, asB_bool, hw, stOK]

theorem f46_1_is {p : Nat} {n : Int} {ci ce : C} {l : List Int} {m : Nat} {H : Heap} (hg : H.get p = some (.cells 3 [.int .i64 n, ci, ce])) (h : Ints H ci l) (hl : l.length ≤ 1000000) (hm : C.len ce = some m) : ∀ (d k : Nat) (r : Bool), (r = true → 0 ≤ n ∧ n ≤ 400) → k + d = l.length →
    f46_1 M (.ptr p 0) (.func 62 [] [.ptr p 0]) (.func 63 [] []) r ci (l.length : Int) (k : Int) H =
      f46_2 M (.ptr p 0) (.func 62 [] [.ptr p 0]) (.func 63 [] []) (r && initOK n (prev l k) (l.drop k)) ce (m : Int) 0 H := by
  intro d
  induction d with
  | zero =>
    intro k r hr hk
    rw [f46_1_eq]
    simp only [show ¬ ((k : Int) < l.length) by omega, Option.bind_some, decide_false, Bool.false_eq_true, if_false, List.drop_of_length_le (show l.length ≤ k by omega), initOK, asP_ptr, ld_of hg, Nat.zero_add, List.getElem?_cons_succ, List.getElem?_cons_zero, hm, Bool.and_true]
  | succ d ih =>
    intro k r hr hk
    have h1 : k < l.length := by omega
    obtain ⟨q, c1, c2⟩ := h.read (List.getElem?_eq_getElem h1)
    rw [f46_1_eq, List.drop_eq_getElem_cons h1]
    simp only [show ((k : Int) < l.length) by omega, decide_true, if_true, c1, c2, Option.bind_some, asI_int, asF_func, List.map_nil, List.nil_append, List.map_cons, List.singleton_append, List.cons_append, wrap_succ (show k ≤ 1000000000 by omega), initOK, mcall62]
    have ih' := fun r hr => ih (k + 1) r hr (by omega)
    rw [prev_succ h1] at ih'
    cases r with
    | false =>
      simp only [Bool.false_eq_true, if_false, Option.bind_some, Bool.false_and]
      have := ih' false (fun h => by cases h)
      simpa only [Bool.false_and] using this
    | true =>
      obtain ⟨hn0, hn1⟩ := hr rfl
      simp only [if_true, f62_is hg hn0 hn1, Option.bind_some, asC_c, asB_bool, Bool.true_and]
      cases hs : stOK n l[k] with
      | false =>
        simp only [Bool.false_eq_true, if_false, Option.bind_some, Bool.false_and]
        have := ih' false (fun h => by cases h)
        simpa only [Bool.false_and] using this
      | true =>
        simp only [if_true, Bool.true_and]
        by_cases hk0 : k = 0
        · subst hk0
          simp only [prev, if_true, Option.all_none, Bool.true_and]
          have := ih' true (fun _ => ⟨hn0, hn1⟩)
          simpa using this
        · have hp : prev l k = some l[k - 1] := by unfold prev; rw [if_neg hk0]; exact List.getElem?_eq_getElem _
          obtain ⟨q', c3, c4⟩ := h.read (j := k - 1) (List.getElem?_eq_getElem (by omega))
          simp only [hp, Option.all_some, show ¬ ((k : Int) = 0) by omega, decide_false, if_true, asP_ptr, Option.bind_some, ld_of hg, Nat.zero_add, List.getElem?_cons_succ, List.getElem?_cons_zero, wrap_pred (show k ≤ 1000000000 by omega) (by omega), c3, c4, asI_int]
          exact ih' _ (fun _ => ⟨hn0, hn1⟩)

theorem f46_2_is {p : Nat} {n : Int} {ci ce : C} {es : List E} (hl : es.length ≤ 1000000) : ∀ (d k : Nat) (r : Bool) (H : Heap), H.get p = some (.cells 3 [.int .i64 n, ci, ce]) → p < H.next → Eds H ce es → (r = true → 0 ≤ n ∧ n ≤ 400) → k + d = es.length →
    ∃ H', f46_2 M (.ptr p 0) (.func 62 [] [.ptr p 0]) (.func 63 [] []) r ce (es.length : Int) (k : Int) H = some (.c (.int .i64 (if (r && edgesOK n (prev es k) (es.drop k)) = true then 0 else 5)), H') ∧ Grow H H' := by
  intro d
  induction d with
  | zero =>
    intro k r H hg hpn h hr hk
    rw [f46_2_eq]
    simp only [show ¬ ((k : Int) < es.length) by omega, Option.bind_some, decide_false, Bool.false_eq_true, if_false, List.drop_of_length_le (show es.length ≤ k by omega), edgesOK, f43_is, asC_c, asI_int, Bool.and_true]
    exact ⟨H, rfl, .refl _⟩
  | succ d ih =>
    intro k r H hg hpn h hr hk
    have h1 : k < es.length := by omega
    obtain ⟨q, c1, c2, c3, c4⟩ := h.read (List.getElem?_eq_getElem h1)
    rw [f46_2_eq, List.drop_eq_getElem_cons h1]
    simp only [show ((k : Int) < es.length) by omega, decide_true, if_true, c1, c2, c3, c4, Option.bind_some, asI_int, asF_func, List.map_nil, List.nil_append, List.map_cons, List.singleton_append, List.cons_append, wrap_succ (show k ≤ 1000000000 by omega), edgesOK, edgeOK, mcall62]
    have ih' := fun r H hg hpn h hr => ih (k + 1) r H hg hpn h hr (by omega)
    rw [prev_succ h1] at ih'
    have stop : ∃ H', f46_2 M (.ptr p 0) (.func 62 [] [.ptr p 0]) (.func 63 [] []) false ce (es.length : Int) ((k + 1 : Nat) : Int) H = some (.c (.int .i64 5), H') ∧ Grow H H' := by
      obtain ⟨H', i1, i2⟩ := ih' false H hg hpn h (fun h => by cases h)
      exact ⟨H', by simpa only [Bool.false_and, Bool.false_eq_true, if_false] using i1, i2⟩
    cases r with
    | false => simpa only [Bool.false_eq_true, if_false, Option.bind_some, Bool.false_and] using stop
    | true =>
      obtain ⟨hn0, hn1⟩ := hr rfl
      simp only [if_true, f62_is hg hn0 hn1, Option.bind_some, asC_c, asB_bool, Bool.true_and, f44_is]
      cases hs : stOK n es[k].f with
      | false => simpa only [Bool.false_eq_true, if_false, Option.bind_some, Bool.false_and] using stop
      | true =>
        simp only [if_true, f62_is hg hn0 hn1, Option.bind_some, asC_c, asB_bool, Bool.true_and]
        cases ht : stOK n es[k].t with
        | false => simpa only [Bool.false_eq_true, if_false, Option.bind_some, Bool.false_and] using stop
        | true =>
          simp only [if_true, Option.bind_some, asC_c, asB_bool, Bool.true_and]
          by_cases ha : 0 ≤ es[k].a ∧ es[k].a ≤ 11
          rotate_left
          · simpa only [ha, decide_false, Bool.false_eq_true, if_false, Option.bind_some, Bool.false_and] using stop
          simp only [ha, and_self, decide_true, if_true, Bool.true_and]
          by_cases hk0 : k = 0
          · subst hk0
            obtain ⟨H', i1, i2⟩ := ih' true H hg hpn h (fun _ => ⟨hn0, hn1⟩)
            refine ⟨H', ?_, i2⟩
            simp only [prev, if_true, Option.all_none, Bool.true_and]
            simpa using i1
          · have hp : prev es k = some es[k - 1] := by unfold prev; rw [if_neg hk0]; exact List.getElem?_eq_getElem _
            obtain ⟨q', d1, d2, d3, d4⟩ := h.read (j := k - 1) (List.getElem?_eq_getElem (by omega))
            obtain ⟨H5, e1, e2⟩ := f63_is (M := M) es[k - 1] es[k] H
            obtain ⟨H', i1, i2⟩ := ih' (decide (cmpE es[k - 1] es[k] < 0)) H5 (by rw [e2.keep p hpn]; exact hg) (Nat.lt_of_lt_of_le hpn e2.next) (h.grow e2) (fun _ => ⟨hn0, hn1⟩)
            refine ⟨H', ?_, e2.trans i2⟩
            simp only [hp, Option.all_some, show ¬ ((k : Int) = 0) by omega, decide_false, if_true, asP_ptr, Option.bind_some, ld_of hg, Nat.zero_add, List.getElem?_cons_succ, List.getElem?_cons_zero, wrap_pred (show k ≤ 1000000000 by omega) (by omega), d1, d2, d3, d4, asI_int, mcall63, e1, asC_c]
            exact i1

theorem f46_is {n : Int} {ci ce : C} {l : List Int} {es : List E} {H : Heap} (hi : Ints H ci l) (he : Eds H ce es) (h1 : l.length ≤ 1000000) (h2 : es.length ≤ 1000000) :
    ∃ H', f46 M n ci ce H = some (.c (.int .i64 (if isGraph n l es = true then 0 else 5)), H') ∧ Grow H H' := by
  have g := Grow.alloc H (.cells 3 [.int .i64 n, ci, ce])
  have hg : (H.alloc (.cells 3 [.int .i64 n, ci, ce])).get H.next = some (.cells 3 [.int .i64 n, ci, ce]) := alloc_new _ _
  have f1 := fun r hr => f46_1_is (M := M) hg (hi.grow g) h1 he.len l.length 0 r hr (by omega)
  simp only [prev, if_true, List.drop_zero] at f1
  have f2 := fun r hr => f46_2_is (M := M) (p := H.next) (n := n) (ci := ci) h2 es.length 0 r _ hg (by simp) (he.grow g) hr (by omega)
  simp only [prev, if_true, List.drop_zero] at f2
  rw [f46_eq]
  simp only [ld_of hg, List.getElem?_cons_succ, List.getElem?_cons_zero, Option.bind_some, asI_int, f44_is, asC_c, asB_bool]
  have hgr : isGraph n l es = ((decide (0 ≤ n ∧ n ≤ 400) && decide (es.length ≤ 2000)) && initOK n none l && edgesOK n none es) := rfl
  rw [hgr]
  by_cases hn : 0 ≤ n ∧ n ≤ 400
  · simp only [hn, and_self, decide_true, if_true, ld_of hg, List.getElem?_cons_succ, List.getElem?_cons_zero, Option.bind_some, he.len, hi.len, Bool.true_and]
    have f1' := f1 (decide ((es.length : Int) ≤ 2000)) (fun _ => hn)
    have e0 : ((0 : Nat) : Int) = 0 := rfl
    rw [e0] at f1'
    rw [f1']
    obtain ⟨H', g1, g2⟩ := f2 (decide ((es.length : Int) ≤ 2000) && initOK n none l) (fun _ => hn)
    have hd : decide ((es.length : Int) ≤ 2000) = decide (es.length ≤ 2000) := by
      by_cases h : es.length ≤ 2000
      · simp [h]; omega
      · simp [h]; omega
    rw [hd] at g1 ⊢
    exact ⟨H', g1, g.trans g2⟩
  · simp only [hn, decide_false, Bool.false_eq_true, if_false, ld_of hg, List.getElem?_cons_succ, List.getElem?_cons_zero, Option.bind_some, he.len, hi.len, Bool.false_and]
    have f1' := f1 false (fun h => by cases h)
    have e0 : ((0 : Nat) : Int) = 0 := rfl
    rw [e0] at f1'
    rw [f1']
    obtain ⟨H', g1, g2⟩ := f2 false (fun h => by cases h)
    exact ⟨H', by rw [e0] at g1; simpa only [Bool.false_and, Bool.false_eq_true, if_false] using g1, g.trans g2⟩

/-! ### copies -/
theorem own_copy {H : Heap} {lim : Nat} {c : C} {sz : Nat} {rows : List (List C)} (h : Sl H c sz rows) (hM : lim ≤ H.next) (hr : rows.length ≤ 2 ^ 36) :
    (H.alloc (.cells sz [])).cellsOf sz c = some rows.flatten ∧ C.len c = some rows.length ∧
    ∃ c' H', Heap.app lim (H.alloc (.cells sz [])) sz (.slice H.next 0 0) rows.flatten rows.length = some (c', H') ∧ Grow H H' ∧ Own H' H.next c' sz rows := by
  have g := Grow.alloc H (.cells sz [])
  have ho : Own (H.alloc (.cells sz [])) H.next (.slice H.next 0 0) sz [] := Own.lit H (Nat.le_refl _) (fun _ h => (by cases h)) rfl rfl
  obtain ⟨c', H', a1, a2, a3, _⟩ := ho.app (lim := lim) (rows' := rows) hM h.1 rfl (by simpa using hr)
  exact ⟨(h.grow g).cellsOf, h.len, c', H', a1, Own.kept_grow ho g a3, by simpa using a2⟩
theorem f26_is {c : C} {l : List Int} {H : Heap} (h : Ints H c l) (hM : M.lim ≤ H.next) (hr : l.length ≤ 2 ^ 36) : ∃ c' H', f26 M c H = some (.c c', H') ∧ Grow H H' ∧ OInts H' H.next c' l := by
  obtain ⟨a1, a2, c', H', a3, a4, a5⟩ := own_copy (lim := M.lim) h hM (by simpa using hr)
  refine ⟨c', H', ?_, a4, a5⟩
  rw [f26_eq]
  simp only [a1, a2, a3, Option.bind_some]
theorem f18_is {n : Int} {ci ce : C} {l : List Int} {es : List E} {H : Heap} (hi : Ints H ci l) (he : Eds H ce es) (hM : M.lim ≤ H.next) (h1 : l.length ≤ 1000000) (h2 : es.length ≤ 1000000) :
    ∃ c1 c2 H', f18 M n ci ce H = some (.agg [.int .i64 n, c1, c2], H') ∧ Grow H H' ∧ Ints H' c1 l ∧ Eds H' c2 es := by
  obtain ⟨c1, H1, a1, a2, a3⟩ := f26_is (M := M) hi hM (by omega)
  obtain ⟨b1, b2, c2, H2, b3, b4, b5⟩ := own_copy (lim := M.lim) (he.grow a2) (Nat.le_trans hM a2.next) (by simp; omega)
  refine ⟨c1, c2, H2, ?_, a2.trans b4, a3.ints.grow b4, b5.sl⟩
  rw [f18_eq]
  simp only [a1, asC_c, b1, b2, b3, Option.bind_some]
theorem f29_is {x : Int} {b : Bool} {c : C} {l : List Int} {H : Heap} (h : Ints H c l) (hM : M.lim ≤ H.next) (hr : l.length ≤ 2 ^ 36) : ∃ c' H', f29 M x c b H = some (.agg [.int .i64 x, c', .bool b], H') ∧ Grow H H' ∧ Ints H' c' l := by
  obtain ⟨c', H', a1, a2, a3⟩ := f26_is (M := M) h hM hr
  refine ⟨c', H', ?_, a2, a3.ints⟩
  rw [f29_eq]
  simp only [a1, asC_c, Option.bind_some]

/-! ### membership -/
theorem f76_1_is {c : C} {l : List Int} {H : Heap} (h : Ints H c l) (hn : l.length ≤ 1000000) (v : Int) : ∀ (d k : Nat), k + d = l.length → ∃ j : Int, f76_1 M c v (l.length : Int) (k : Int) H = some (.c (.int .i64 j), H) ∧ (0 ≤ j ↔ v ∈ l.drop k) := by
  intro d
  induction d with
  | zero =>
    intro k hk
    rw [f76_1_eq, List.drop_of_length_le (by omega)]
    simp only [show ¬ ((k : Int) < l.length) by omega, decide_false, Bool.false_eq_true, if_false]
    exact ⟨-1, rfl, by simp⟩
  | succ d ih =>
    intro k hk
    have hlt : k < l.length := by omega
    obtain ⟨q, h1, h2⟩ := h.read (List.getElem?_eq_getElem hlt)
    rw [f76_1_eq, List.drop_eq_getElem_cons hlt]
    simp only [show ((k : Int) < l.length) by omega, decide_true, if_true, h1, h2, Option.bind_some, asI_int, wrap_succ (show k ≤ 1000000000 by omega)]
    by_cases h0 : v = l[k]
    · simp only [h0, decide_true, if_true]
      exact ⟨_, rfl, by simp only [List.mem_cons, true_or, iff_true]; omega⟩
    · simp only [h0, decide_false, Bool.false_eq_true, if_false]
      obtain ⟨j, i1, i2⟩ := ih (k + 1) (by omega)
      exact ⟨j, i1, by rw [i2, List.mem_cons]; simp only [h0, false_or]⟩
theorem f72_is {c : C} {l : List Int} {H : Heap} (h : Ints H c l) (hn : l.length ≤ 1000000) (v : Int) : f72 M c v H = some (.c (.bool (decide (v ∈ l))), H) := by
  obtain ⟨j, i1, i2⟩ := f76_1_is (M := M) h hn v l.length 0 (by omega)
  rw [f72_eq, f76_eq]
  have e0 : ((0 : Nat) : Int) = 0 := rfl
  rw [e0] at i1
  simp only [h.len, Option.bind_some, i1, asC_c, asI_int]
  simp only [List.drop_zero] at i2
  simp only [i2]
theorem f51_1_is {c : C} {l : List Int} {H : Heap} (h : Ints H c l) (hn : l.length ≤ 1000000) (v : Int) : ∀ (d k : Nat), k + d = l.length → f51_1 M c v (k : Int) H = some (.c (.bool (decide (v ∈ l.drop k))), H) := by
  intro d
  induction d with
  | zero =>
    intro k hk
    rw [f51_1_eq, List.drop_of_length_le (by omega)]
    simp only [h.len, Option.bind_some, show ¬ ((k : Int) < l.length) by omega, decide_false, Bool.false_eq_true, if_false]
    simp
  | succ d ih =>
    intro k hk
    have hlt : k < l.length := by omega
    obtain ⟨q, h1, h2⟩ := h.read (List.getElem?_eq_getElem hlt)
    rw [f51_1_eq, List.drop_eq_getElem_cons hlt]
    simp only [h.len, show ((k : Int) < l.length) by omega, decide_true, if_true, h1, h2, Option.bind_some, asI_int, wrap_succ (show k ≤ 1000000000 by omega)]
    by_cases h0 : l[k] = v
    · simp [h0]
    · simp only [h0, decide_false, Bool.false_eq_true, if_false, ih (k + 1) (by omega)]
      simp only [List.mem_cons, Ne.symm h0, false_or]
theorem f51_is {c : C} {l : List Int} {H : Heap} (h : Ints H c l) (hn : l.length ≤ 1000000) (v : Int) : f51 M c v H = some (.c (.bool (decide (v ∈ l))), H) := by
  rw [f51_eq]
  exact f51_1_is h hn v l.length 0 (by omega)

/-! ### walks that are checked -/
def walkGo (es : List E) : Int → List Int → Int × Int
  | s, [] => (s, 0)
  | s, i :: l => if 0 ≤ i ∧ i ≤ (es.length : Int) - 1 then (match es[i.toNat]? with
    | some e => if e.f = s then walkGo es e.t l else (0, 14)
    | none => (0, 3)) else (0, 3)
def walkRes (init : List Int) (es : List E) (x : Int) (l : List Int) : Int × Int :=
  if 300 < l.length then (0, 2) else if x ∈ init then walkGo es x l else (0, 10)
def pairV (r : Int × Int) : V := .tuple [.c (.int .i64 r.1), .c (.int .i64 r.2)]

theorem f55_1_is {n : Int} {ci ce cx : C} {es : List E} {st : List Int} {H : Heap} (he : Eds H ce es) (hx : Ints H cx st) (h1 : es.length ≤ 1000000) (h2 : st.length ≤ 1000000) : ∀ (d k : Nat) (s : Int), k + d = st.length →
    f55_1 M n ci ce s cx (st.length : Int) (k : Int) H = some (pairV (walkGo es s (st.drop k)), H) := by
  intro d
  induction d with
  | zero =>
    intro k s hk
    rw [f55_1_eq, List.drop_of_length_le (by omega)]
    simp only [show ¬ ((k : Int) < st.length) by omega, decide_false, Bool.false_eq_true, if_false]
    rfl
  | succ d ih =>
    intro k s hk
    have hlt : k < st.length := by omega
    obtain ⟨q, c1, c2⟩ := hx.read (List.getElem?_eq_getElem hlt)
    have hw : IntKind.wrap .i64 ((es.length : Int) - 1) = (es.length : Int) - 1 := wrap_in (by omega) (by omega)
    rw [f55_1_eq, List.drop_eq_getElem_cons hlt]
    simp only [show ((k : Int) < st.length) by omega, decide_true, if_true, c1, c2, he.len, Option.bind_some, asI_int, f44_is, hw, asC_c, asB_bool, wrap_succ (show k ≤ 1000000000 by omega), walkGo]
    by_cases hi : 0 ≤ st[k] ∧ st[k] ≤ (es.length : Int) - 1
    · have hj : st[k].toNat < es.length := by omega
      obtain ⟨q', d1, d2, d3, _⟩ := he.readI hi.1 (List.getElem?_eq_getElem hj)
      simp only [hi, and_self, decide_true, Bool.not_true, Bool.false_eq_true, if_false, if_true, d1, d2, d3, Option.bind_some, asI_int, List.getElem?_eq_getElem hj]
      by_cases hf : es[st[k].toNat].f = s
      · simp only [hf, decide_true, Bool.not_true, Bool.false_eq_true, if_false, if_true]
        exact ih (k + 1) _ (by omega)
      · simp only [hf, decide_false, Bool.not_false, if_true, if_false]; rfl
    · simp only [hi, decide_false, Bool.not_false, if_true, if_false]; rfl
theorem f55_is {n : Int} {ci ce cx : C} {l : List Int} {es : List E} {x : Int} {b : Bool} {st : List Int} {H : Heap} (hi : Ints H ci l) (he : Eds H ce es) (hx : Ints H cx st) (h0 : l.length ≤ 1000000) (h1 : es.length ≤ 1000000) (h2 : st.length ≤ 1000000) :
    f55 M n ci ce x cx b H = some (pairV (walkRes l es x st), H) := by
  rw [f55_eq]
  simp only [hx.len, Option.bind_some, walkRes]
  by_cases h : 300 < st.length
  · simp only [h, show (300 : Int) < st.length by omega, decide_true, if_true]; rfl
  · simp only [h, show ¬ ((300 : Int) < st.length) by omega, decide_false, Bool.false_eq_true, if_false, f72_is hi h0, Option.bind_some, asC_c, asB_bool]
    by_cases hm : x ∈ l
    · simp only [hm, decide_true, Bool.not_true, Bool.false_eq_true, if_false, if_true]
      exact f55_1_is he hx h1 h2 st.length 0 x (by omega)
    · simp only [hm, decide_false, Bool.not_false, if_true, if_false]; rfl
theorem f31_1_is {n : Int} {ci ce cx : C} {es : List E} {x : Int} {b : Bool} {st : List Int} {H : Heap} (he : Eds H ce es) (hx : Ints H cx st) (h1 : es.length ≤ 1000000) (h2 : st.length ≤ 1000000) : ∀ (d k : Nat) (s : Int), k + d = st.length →
    f31_1 M n ci ce x cx b s (k : Int) H = some (pairV (walkGo es s (st.drop k)), H) := by
  intro d
  induction d with
  | zero =>
    intro k s hk
    rw [f31_1_eq, List.drop_of_length_le (by omega)]
    simp only [hx.len, Option.bind_some, show ¬ ((k : Int) < st.length) by omega, decide_false, Bool.false_eq_true, if_false]
    rfl
  | succ d ih =>
    intro k s hk
    have hlt : k < st.length := by omega
    obtain ⟨q, c1, c2⟩ := hx.read (List.getElem?_eq_getElem hlt)
    have hw : IntKind.wrap .i64 ((es.length : Int) - 1) = (es.length : Int) - 1 := wrap_in (by omega) (by omega)
    rw [f31_1_eq, List.drop_eq_getElem_cons hlt]
    simp only [hx.len, show ((k : Int) < st.length) by omega, decide_true, if_true, c1, c2, he.len, Option.bind_some, asI_int, f13_is, hw, asC_c, asB_bool, wrap_succ (show k ≤ 1000000000 by omega), walkGo]
    by_cases hi : 0 ≤ st[k] ∧ st[k] ≤ (es.length : Int) - 1
    · have hj : st[k].toNat < es.length := by omega
      obtain ⟨q', d1, d2, d3, _⟩ := he.readI hi.1 (List.getElem?_eq_getElem hj)
      simp only [hi, and_self, decide_true, Bool.not_true, Bool.false_eq_true, if_false, if_true, d1, d2, d3, Option.bind_some, asI_int, List.getElem?_eq_getElem hj]
      by_cases hf : es[st[k].toNat].f = s
      · simp only [hf, decide_true, Bool.not_true, Bool.false_eq_true, if_false, if_true]
        exact ih (k + 1) _ (by omega)
      · simp only [hf, decide_false, Bool.not_false, if_true, if_false]; rfl
    · simp only [hi, decide_false, Bool.not_false, if_true, if_false]; rfl

def checkRes (n : Int) (l : List Int) (es : List E) (x : Int) (st : List Int) : Int × Int := if isGraph n l es = true then walkRes l es x st else (0, 5)
theorem f31_is {n : Int} {ci ce cx : C} {l : List Int} {es : List E} {x : Int} {b : Bool} {st : List Int} {H : Heap} (hi : Ints H ci l) (he : Eds H ce es) (hx : Ints H cx st) (h0 : l.length ≤ 1000000) (h1 : es.length ≤ 1000000) (h2 : st.length ≤ 1000000) :
    ∃ H', f31 M n ci ce x cx b H = some (pairV (checkRes n l es x st), H') ∧ Grow H H' := by
  obtain ⟨H1, a1, a2⟩ := f20_is (M := M) (n := n) hi he h0 h1
  rw [f31_eq]
  simp only [a1, Option.bind_some, asC_c, asB_bool, checkRes]
  cases hg : isGraph n l es with
  | false => exact ⟨H1, rfl, a2⟩
  | true =>
    refine ⟨H1, ?_, a2⟩
    simp only [Bool.not_true, Bool.false_eq_true, if_false, if_true, (hx.grow a2).len, Option.bind_some, walkRes]
    by_cases h : 300 < st.length
    · simp only [h, show (300 : Int) < st.length by omega, decide_true, if_true]; rfl
    · simp only [h, show ¬ ((300 : Int) < st.length) by omega, decide_false, Bool.false_eq_true, if_false, f51_is (hi.grow a2) h0, Option.bind_some, asC_c, asB_bool]
      by_cases hm : x ∈ l
      · simp only [hm, decide_true, Bool.not_true, Bool.false_eq_true, if_false, if_true]
        exact f31_1_is (he.grow a2) (hx.grow a2) h1 h2 st.length 0 x (by omega)
      · simp only [hm, decide_false, Bool.not_false, if_true, if_false]; rfl
theorem f28_is {n : Int} {ci ce cx : C} {l : List Int} {es : List E} {x : Int} {b : Bool} {st : List Int} {H : Heap} (hi : Ints H ci l) (he : Eds H ce es) (hx : Ints H cx st) (h0 : l.length ≤ 1000000) (h1 : es.length ≤ 1000000) (h2 : st.length ≤ 1000000) :
    ∃ H', f28 M n ci ce x cx b H = some (pairV (checkRes n l es x st), H') ∧ Grow H H' := by
  obtain ⟨H1, a1, a2⟩ := f46_is (M := M) (n := n) hi he h0 h1
  rw [f28_eq]
  simp only [a1, Option.bind_some, asC_c, asI_int, checkRes]
  cases hg : isGraph n l es with
  | false => exact ⟨H1, rfl, a2⟩
  | true =>
    refine ⟨H1, ?_, a2⟩
    simp only [if_true, decide_true, Bool.not_true, Bool.false_eq_true, if_false, f55_is (hi.grow a2) (he.grow a2) (hx.grow a2) h0 h1 h2, Option.bind_some, pairV, ext_tuple, List.getElem?_cons_zero, List.getElem?_cons_succ, asC_c, asI_int]

/-! ### the limits -/
theorem f16_is {n : Int} {ci ce : C} {l : List Int} {es : List E} {H : Heap} (hi : Ints H ci l) (he : Eds H ce es) : f16 M n ci ce H = some (.c (.bool (decide (n ≤ 20) && decide (l.length ≤ 22) && decide (es.length ≤ 60))), H) := by
  have e1 : decide ((l.length : Int) ≤ 22) = decide (l.length ≤ 22) := by rw [decide_eq_decide]; omega
  have e2 : decide ((es.length : Int) ≤ 60) = decide (es.length ≤ 60) := by rw [decide_eq_decide]; omega
  rw [f16_eq]
  simp only [hi.len, he.len, Option.bind_some, e1, e2]
  cases decide (n ≤ 20) <;> cases decide (l.length ≤ 22) <;> rfl
/-- how long a walk may be for the laws -/
def shortOK (n : Nat) : Bool := !((decide (60 < n) && decide (n ≤ 300)) || decide (302 < n))
theorem f30_one {x : Int} {b : Bool} {cx : C} {st : List Int} {H : Heap} (hx : Ints H cx st) : ∃ H', (let H8 := Heap.alloc H (.cells 3 [.int .i64 x, cx, .bool b]); f30 M (.slice H.next 0 1) H8) = some (.c (.bool (shortOK st.length)), H') ∧ Grow H H' := by
  have g := Grow.alloc H (.cells 3 [.int .i64 x, cx, .bool b])
  have hl : Own (H.alloc (.cells 3 [.int .i64 x, cx, .bool b])) H.next (.slice H.next 0 1) 3 [[.int .i64 x, cx, .bool b]] := Own.lit H (Nat.le_refl _) (by simp) rfl rfl
  obtain ⟨q, c1, c2⟩ := hl.sl.elem (j := 0) rfl
  have c3 := c2 1 cx rfl
  have e0 : ((0 : Nat) : Int) = 0 := rfl
  rw [e0] at c1
  refine ⟨H.alloc (.cells 3 [.int .i64 x, cx, .bool b]), ?_, g⟩
  have e1 : decide ((60 : Int) < st.length) = decide (60 < st.length) := by rw [decide_eq_decide]; omega
  have e2 : decide ((st.length : Int) ≤ 300) = decide (st.length ≤ 300) := by rw [decide_eq_decide]; omega
  have e3 : decide ((302 : Int) < st.length) = decide (302 < st.length) := by rw [decide_eq_decide]; omega
  have l1 : f30_1 M (.slice H.next 0 1) 1 (H.alloc (.cells 3 [.int .i64 x, cx, .bool b])) = some (.c (.bool true), H.alloc (.cells 3 [.int .i64 x, cx, .bool b])) := by
    rw [f30_1_eq]; simp
  have hw : IntKind.wrap .i64 ((0 : Int) + 1) = 1 := rfl
  have l0 : f30_1 M (.slice H.next 0 1) 0 (H.alloc (.cells 3 [.int .i64 x, cx, .bool b])) = some (.c (.bool (shortOK st.length)), H.alloc (.cells 3 [.int .i64 x, cx, .bool b])) := by
    rw [f30_1_eq]
    simp only [len_slice, Option.bind_some, c1, c3, hx.len, e1, e2, e3, hw, l1, shortOK]
    cases decide (60 < st.length) <;> cases decide (st.length ≤ 300) <;> cases decide (302 < st.length) <;> simp [l1]
  show f30 M (.slice H.next 0 1) (H.alloc (.cells 3 [.int .i64 x, cx, .bool b])) = _
  rw [f30_eq]
  simp only [len_slice, Option.bind_some]
  simp [l0]

/-! ### the law -/
theorem f7_is {lim : Nat} {n x : Int} {ci ce cx : C} {b : Bool} {l : List Int} {es : List E} {st : List Int} {H : Heap} (hM : lim ≤ H.next) (hi : Ints H ci l) (he : Eds H ce es) (hx : Ints H cx st) :
    ∃ H', f7 (MM lim) n ci ce x cx b H = some (.c (.bool true), H') := by
  have hM' : (MM lim).lim ≤ H.next := hM
  rw [f7_eq, f10_out]
  simp only [Option.bind_some, asC_c, asB_bool, Bool.not_true, Bool.false_eq_true, if_false, f16_is hi he]
  cases hfew : (decide (n ≤ 20) && decide (l.length ≤ 22) && decide (es.length ≤ 60)) with
  | false => exact ⟨H, rfl⟩
  | true =>
    simp only [Bool.and_eq_true, decide_eq_true_eq] at hfew
    obtain ⟨H1, s1, s2⟩ := f30_one (M := MM lim) (x := x) (b := b) hx
    simp only at s1
    simp only [Bool.not_true, if_true, s1, Option.bind_some, asC_c, asB_bool]
    cases hsh : shortOK st.length with
    | false => exact ⟨H1, rfl⟩
    | true =>
      have hst : st.length ≤ 302 := by
        simp only [shortOK, Bool.not_eq_true', Bool.or_eq_false_iff, decide_eq_false_iff_not] at hsh
        omega
      obtain ⟨c1, c2, H2, t1, t2, t3, t4⟩ := f18_is (M := MM lim) (n := n) (hi.grow s2) (he.grow s2) (Nat.le_trans hM' s2.next) (by omega) (by omega)
      obtain ⟨c3, H3, u1, u2, u3⟩ := f29_is (M := MM lim) (x := x) (b := b) (hx.grow (s2.trans t2)) (Nat.le_trans hM' (s2.trans t2).next) (by omega)
      obtain ⟨H4, v1, v2⟩ := f28_is (M := MM lim) (n := n) (x := x) (b := b) (t3.grow u2) (t4.grow u2) u3 (by omega) (by omega) (by omega)
      have g4 := ((s2.trans t2).trans u2).trans v2
      obtain ⟨H5, w1, w2⟩ := f31_is (M := MM lim) (n := n) (x := x) (b := b) (hi.grow g4) (he.grow g4) (hx.grow g4) (by omega) (by omega) (by omega)
      refine ⟨H5, ?_⟩
      simp only [Bool.not_true, Bool.false_eq_true, if_false, t1, Option.bind_some, asA_agg, headC_cons, asI_int, List.drop_succ_cons, List.drop_zero, List.length_nil, if_true, u1, asB_bool, v1, pairV, ext_tuple, List.getElem?_cons_zero, List.getElem?_cons_succ, asC_c, w1, decide_true]
end Go.Proofs.Ytnnjklkfcleleaa.R
