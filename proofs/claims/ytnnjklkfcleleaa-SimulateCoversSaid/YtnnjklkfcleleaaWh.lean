/-
  CHAPTER 20: walks by a seed: the reference's; the law of walks.
-/
import Derived.Test.YtnnjklkfcleleaaWg
namespace Go.Proofs.Ytnnjklkfcleleaa.R
open Go Go.Proofs.Ytnnjklkfcleleaa.Vm
set_option linter.unusedVariables false
set_option linter.unusedSimpArgs false
variable {M : Mach}

/-! ### steps with a weight -/
def poss (ws : List Int) (es : List E) (s : Int) : List Int := idxs (fun e => decide (e.f = s) && decide (0 < ws.getD e.a.toNat 0)) 0 es
theorem idxs_and (ws : List Int) (s : Int) : ∀ (es pre : List E), idxs (fun e => decide (e.f = s) && decide (0 < ws.getD e.a.toNat 0)) pre.length es = (idxs (fun e => decide (e.f = s)) pre.length es).filter (fun i => decide (0 < wOf ws (pre ++ es) i))
  | [], pre => by simp [idxs]
  | e :: es, pre => by
    have ih := idxs_and ws s es (pre ++ [e])
    simp only [List.length_append, List.length_cons, List.length_nil, List.append_assoc, List.singleton_append, Nat.zero_add] at ih
    have hw : wOf ws (pre ++ e :: es) ((pre.length : Nat) : Int) = ws.getD e.a.toNat 0 := by simp [wOf]
    simp only [idxs]
    by_cases h : e.f = s
    · by_cases h2 : 0 < ws.getD e.a.toNat 0
      · simp only [h, h2, decide_true, Bool.and_self, if_true, List.filter_cons, hw, ih]
      · simp only [h, h2, decide_true, decide_false, Bool.and_false, Bool.false_eq_true, if_false, if_true, List.filter_cons, hw, ih]
    · simp only [h, decide_false, Bool.false_and, Bool.false_eq_true, if_false, ih]
theorem poss_eq (ws : List Int) (es : List E) (s : Int) : poss ws es s = (outs es s).filter (fun i => decide (0 < wOf ws es i)) := by
  exact idxs_and ws s es []
theorem sumW_filter {ws : List Int} {es : List E} (gw : goodW ws) : ∀ l, sumW ws es (l.filter (fun i => decide (0 < wOf ws es i))) = sumW ws es l
  | [] => rfl
  | i :: l => by
    have ih := sumW_filter gw (es := es) l
    have hb := wOf_bound gw es i
    by_cases h : 0 < wOf ws es i
    · simp only [List.filter_cons, h, decide_true, if_true, sumW, List.map_cons, List.sum_cons] at ih ⊢; omega
    · simp only [List.filter_cons, h, decide_false, Bool.false_eq_true, if_false, sumW, List.map_cons, List.sum_cons] at ih ⊢; omega
theorem pick_filter {ws : List Int} {es : List E} (gw : goodW ws) : ∀ {l : List Int} {left : Int}, 0 ≤ left → pick ws es left (l.filter (fun i => decide (0 < wOf ws es i))) = pick ws es left l
  | [], _, _ => rfl
  | i :: l, left, h0 => by
    have hb := wOf_bound gw es i
    by_cases h : 0 < wOf ws es i
    · simp only [List.filter_cons, h, decide_true, if_true, pick]
      by_cases h2 : left - wOf ws es i < 0
      · simp only [h2, if_true]
      · simp only [h2, if_false]; exact pick_filter gw (by omega)
    · have hz : wOf ws es i = 0 := by omega
      simp only [List.filter_cons, h, decide_false, Bool.false_eq_true, if_false, pick, hz, Int.sub_zero, show ¬ (left < 0) by omega]
      exact pick_filter gw h0
theorem poss_nil {ws : List Int} {es : List E} (gw : goodW ws) (s : Int) : ((poss ws es s).length = 0) ↔ sumW ws es (outs es s) = 0 := by
  rw [poss_eq, ← sumW_filter gw (outs es s)]
  constructor
  · intro h
    rw [List.eq_nil_of_length_eq_zero h]; rfl
  · intro h
    cases hl : (outs es s).filter (fun i => decide (0 < wOf ws es i)) with
    | nil => rfl
    | cons i l =>
      exfalso
      rw [hl] at h
      have hi : i ∈ (outs es s).filter (fun i => decide (0 < wOf ws es i)) := by rw [hl]; simp
      have h1 : 0 < wOf ws es i := by simpa using (List.mem_filter.1 hi).2
      have h2 := (sumW_bound gw es l).1
      simp only [sumW, List.map_cons, List.sum_cons] at h h2; omega
theorem poss_ok {ws : List Int} {es : List E} {s i : Int} (h : i ∈ poss ws es s) : okI es i := by
  rw [poss_eq] at h
  exact outs_ok (List.mem_filter.1 h).1

theorem f54_1_is {H0 : Heap} (hM : M.lim ≤ H0.next) {ci ce w : C} {n s : Int} {es : List E} {ws : List Int} (he : Eds H0 ce es) (hw : Ints H0 w ws) (gw : goodW ws) {m : Int} (ge : goodE m es) (hl : es.length ≤ 1000000) : ∀ (d k : Nat) (sum : Int) (acc : List Int) (out : C) (H : Heap), k + d = es.length → Grow H0 H → OInts H H0.next out acc →
    acc.length ≤ k → 0 ≤ sum → sum ≤ 100 * (k : Int) →
    ∃ c H', f54_1 M w s n ci ce out sum (k : Int) H = some (.tuple [.c c, .c (.int .i64 (sum + sumW ws es (idxs (fun e => decide (e.f = s) && decide (0 < ws.getD e.a.toNat 0)) k (es.drop k))))], H') ∧ Grow H0 H' ∧
      OInts H' H0.next c (acc ++ idxs (fun e => decide (e.f = s) && decide (0 < ws.getD e.a.toNat 0)) k (es.drop k)) := by
  intro d
  induction d with
  | zero =>
    intro k sum acc out H hk g ho hacc h0 h1
    obtain rfl : k = es.length := by omega
    refine ⟨out, H, ?_, g, ?_⟩
    · rw [f54_1_eq, List.drop_of_length_le (Nat.le_refl _)]
      simp only [(he.grow g).len, Option.bind_some, show ¬ ((es.length : Int) < es.length) by omega, decide_false, Bool.false_eq_true, if_false, idxs]
      simp [sumW]
    · rw [List.drop_of_length_le (Nat.le_refl _)]; simpa [idxs] using ho
  | succ d ih =>
    intro k sum acc out H hk g ho hacc h0 h1
    have hlt : k < es.length := by omega
    have hok : okI es (k : Int) := ⟨by omega, es[k], by simp [hlt]⟩
    have hwk : wOf ws es (k : Int) = ws.getD es[k].a.toNat 0 := by simp [wOf, hlt]
    obtain ⟨q, c1, c2, _, _⟩ := (he.grow g).read (List.getElem?_eq_getElem hlt)
    obtain ⟨q4, a, q7, d1, d2, d3, d4⟩ := (he.grow g).weight (hw.grow g) gw ge hok
    rw [c1] at d1; cases d1
    have hb := wOf_bound gw es (k : Int)
    have next : ∀ (sum' : Int) (acc' : List Int) (out' : C) (H' : Heap), Grow H0 H' → OInts H' H0.next out' acc' → acc'.length ≤ k + 1 → 0 ≤ sum' → sum' ≤ 100 * ((k + 1 : Nat) : Int) →
        ∃ c H2, f54_2 M w s n ci ce out' sum' (k : Int) H' = some (.tuple [.c c, .c (.int .i64 (sum' + sumW ws es (idxs (fun e => decide (e.f = s) && decide (0 < ws.getD e.a.toNat 0)) (k + 1) (es.drop (k + 1)))))], H2) ∧ Grow H0 H2 ∧
          OInts H2 H0.next c (acc' ++ idxs (fun e => decide (e.f = s) && decide (0 < ws.getD e.a.toNat 0)) (k + 1) (es.drop (k + 1))) := fun sum' acc' out' H' g' ho' ha' hs0 hs1 => by
      obtain ⟨c, H2, i1, i2, i3⟩ := ih (k + 1) sum' acc' out' H' (by omega) g' ho' ha' hs0 hs1
      refine ⟨c, H2, ?_, i2, i3⟩
      rw [f54_2_eq, wrap_succ (show k ≤ 1000000000 by omega)]; exact i1
    rw [f54_1_eq, List.drop_eq_getElem_cons hlt]
    simp only [(he.grow g).len, Option.bind_some, show ((k : Int) < es.length) by omega, decide_true, if_true, c1, c2, asI_int, idxs]
    by_cases hf : es[k].f = s
    · by_cases hp : 0 < wOf ws es (k : Int)
      · obtain ⟨a1, c', H', a2, a3, a4, a5⟩ := ho.append1 (lim := M.lim) hM (k : Int) (by omega)
        have g' := Own.kept_grow ho g a4
        obtain ⟨q4', a', q7', e1, e2, e3, e4⟩ := (he.grow g').weight (hw.grow g') gw ge hok
        rw [c1] at e1; cases e1
        have hwr : IntKind.wrap .i64 (sum + wOf ws es (k : Int)) = sum + wOf ws es (k : Int) := wrap_in (by omega) (by omega)
        obtain ⟨c, H2, i1, i2, i3⟩ := next (sum + wOf ws es (k : Int)) (acc ++ [(k : Int)]) c' H' g' a3 (by simp; omega) (by omega) (by push_cast; omega)
        refine ⟨c, H2, ?_, i2, ?_⟩
        · simp only [hf, decide_true, if_true, d2, d3, d4, Option.bind_some, asI_int, hp, a1, a2, e2, e3, e4, hwr, ← hwk, Bool.and_self]
          rw [i1]
          have e5 : sum + wOf ws es (k : Int) + sumW ws es (idxs (fun e => decide (e.f = s) && decide (0 < ws.getD e.a.toNat 0)) (k + 1) (es.drop (k + 1))) = sum + sumW ws es ((k : Int) :: idxs (fun e => decide (e.f = s) && decide (0 < ws.getD e.a.toNat 0)) (k + 1) (es.drop (k + 1))) := by
            simp only [sumW, List.map_cons, List.sum_cons]; omega
          rw [e5]
        · simp only [hf, decide_true, ← hwk, hp, Bool.and_self, if_true]
          simpa using i3
      · obtain ⟨c, H2, i1, i2, i3⟩ := next sum acc out H g ho (by omega) h0 (by push_cast; omega)
        refine ⟨c, H2, ?_, i2, ?_⟩
        · simp only [hf, decide_true, if_true, d2, d3, d4, Option.bind_some, asI_int, hp, ← hwk, decide_false, Bool.false_eq_true, if_false, Bool.and_false]
          exact i1
        · simp only [hf, decide_true, ← hwk, hp, decide_false, Bool.and_false, Bool.false_eq_true, if_false]
          exact i3
    · obtain ⟨c, H2, i1, i2, i3⟩ := next sum acc out H g ho (by omega) h0 (by push_cast; omega)
      refine ⟨c, H2, ?_, i2, ?_⟩
      · simp only [hf, decide_false, Bool.false_eq_true, if_false, Option.bind_some, Bool.false_and]
        exact i1
      · simp only [hf, decide_false, Bool.false_and, Bool.false_eq_true, if_false]
        exact i3
theorem f54_is {H : Heap} (hM : M.lim ≤ H.next) {ci ce w : C} {n s : Int} {es : List E} {ws : List Int} (he : Eds H ce es) (hw : Ints H w ws) (gw : goodW ws) {m : Int} (ge : goodE m es) (hl : es.length ≤ 1000000) :
    ∃ c H', f54 M n ci ce w s H = some (.tuple [.c c, .c (.int .i64 (sumW ws es (outs es s)))], H') ∧ Grow H H' ∧ OInts H' H.next c (poss ws es s) := by
  obtain ⟨c, H', h1, h2, h3⟩ := f54_1_is (M := M) (n := n) (s := s) (ci := ci) hM he hw gw ge hl es.length 0 0 [] .nilSlice H (by omega) (.refl _) (Own.nil (Nat.le_refl _) 1) (by simp) (by omega) (by omega)
  refine ⟨c, H', ?_, h2, by simpa [poss] using h3⟩
  rw [f54_eq]
  have e0 : ((0 : Nat) : Int) = 0 := rfl
  rw [e0, Int.zero_add, List.drop_zero] at h1
  rw [h1]
  have : sumW ws es (poss ws es s) = sumW ws es (outs es s) := by rw [poss_eq, sumW_filter gw]
  rw [← this]; rfl

/-! ### the reference's walk -/
def nth : Nat → Int → Int
  | 0, x => x
  | k + 1, x => nth k (numStep x)
theorem nth_succ : ∀ (k : Nat) (x : Int), nth (k + 1) x = numStep (nth k x)
  | 0, x => rfl
  | k + 1, x => nth_succ k (numStep x)
theorem nums_get : ∀ (k j : Nat) (x : Int), j < k → (nums k x)[j]? = some (nth (j + 1) x)
  | 0, j, x, h => by omega
  | k + 1, 0, x, _ => rfl
  | k + 1, j + 1, x, h => by
    simp only [nums, List.getElem?_cons_succ]
    rw [nums_get k j (numStep x) (by omega)]
    rfl
section loops
variable {w ci ce out c p : C} {n x0 x1 s w0 y0 : Int} {y1 : C} {y2 : Bool} {ws : List Int} {es : List E} {l : List Int}
theorem f27_2_is {H : Heap} {b : Nat} {lc o1 : C} {o2 : Bool} {st : List Int} (hb : M.lim ≤ b) (he : Eds H ce es) (hw : Ints H w ws) (gw : goodW ws) {m : Int} (ge : goodE m es) (hc : Ints H p l) (hl : ∀ i ∈ l, okI es i) (hn : l.length ≤ 1000000)
    (hst : OInts H b o1 st) (hroom : st.length + 1 ≤ 2 ^ 36) (hap : ∀ H', Kept o1 H H' → Eds H' ce es ∧ Ints H' p l) : ∀ (d k : Nat) (left i : Int), k + d = l.length → 0 ≤ left → left ≤ 1000000000 → pick ws es left (l.drop k) = some i →
    ∃ c' H', f27_2 M w n ci ce x0 x1 y0 y1 y2 lc w0 o1 o2 p left (k : Int) H = f27_1 M w n ci ce x0 x1 y0 y1 y2 lc w0 c' o2 (toOf es i) H' ∧
      OInts H' b c' (st ++ [i]) ∧ Kept o1 H H' ∧ (c' = .nilSlice ∨ ∃ j o z, c' = .slice j o z ∧ H.next ≤ j) := by
  intro d
  induction d with
  | zero =>
    intro k left i hk h0 h1 hp
    rw [List.drop_of_length_le (by omega)] at hp
    simp [pick] at hp
  | succ d ih =>
    intro k left i hk h0 h1 hp
    have hlt : k < l.length := by omega
    have hok := hl l[k] (List.getElem_mem hlt)
    obtain ⟨q, c1, c2⟩ := hc.read (List.getElem?_eq_getElem hlt)
    obtain ⟨q4, a, q7, d1, d2, d3, d4⟩ := he.weight hw gw ge hok
    have hbd := wOf_bound gw es l[k]
    have hwr : IntKind.wrap .i64 (left - wOf ws es l[k]) = left - wOf ws es l[k] := wrap_in (by omega) (by omega)
    rw [List.drop_eq_getElem_cons hlt] at hp
    simp only [pick] at hp
    rw [f27_2_eq]
    by_cases hlt0 : left - wOf ws es l[k] < 0
    · rw [if_pos hlt0] at hp; cases hp
      obtain ⟨a1, c', H', a2, a3, a4, a5⟩ := hst.append1 (lim := M.lim) hb l[k] hroom
      obtain ⟨q13, t1, t2⟩ := (hap H' a4).1.target hok
      rw [d1] at t1; cases t1
      obtain ⟨q', u1, u2⟩ := (hap H' a4).2.read (List.getElem?_eq_getElem hlt)
      rw [c1] at u1; cases u1
      simp only [c1, c2, d1, d2, d3, d4, Option.bind_some, asI_int, show ¬ (wOf ws es l[k] ≤ left) by omega, decide_false, Bool.false_eq_true, if_false, a1, a2, t2, u2]
      exact ⟨c', H', rfl, a3, a4, a5⟩
    · rw [if_neg hlt0] at hp
      simp only [c1, c2, d1, d2, d3, d4, Option.bind_some, asI_int, show wOf ws es l[k] ≤ left by omega, decide_true, if_true, hwr, wrap_succ (show k ≤ 1000000000 by omega)]
      exact ih (k + 1) _ i (by omega) (by omega) (by omega) hp
theorem f27_1_is {H1 : Heap} (hM : M.lim ≤ H1.next) {m : Nat} {steps : Nat} {seed : Int} (hseed0 : 0 ≤ seed) (hseed1 : seed ≤ 2147483646) (hsteps : steps ≤ 1000) {lc : C} (hlc : Ints H1 lc (nums (steps + 1) seed)) (he : Eds H1 ce es) (hw : Ints H1 w ws) (gw : goodW ws) (ge : goodE (m : Int) es) (hes : es.length ≤ 1000000) : ∀ (d : Nat) (s : Int) (st : List Int) (o1 : C) (o2 : Bool) (H : Heap), Grow H1 H → 0 ≤ s → s < m →
    OInts H H1.next o1 st → st.length + d = steps → (0 ≤ nth (st.length + 1) seed ∧ nth (st.length + 1) seed ≤ 2147483646) →
    ∃ c' H', f27_1 M w n ci ce x0 (steps : Int) y0 y1 y2 lc w0 o1 o2 s H = some (.agg [.int .i64 w0, c', .bool (walkRun ws es d (nth (st.length + 1) seed) s).2], H') ∧ Grow H1 H' ∧ OInts H' H1.next c' (st ++ (walkRun ws es d (nth (st.length + 1) seed) s).1) := by
  intro d
  induction d with
  | zero =>
    intro s st o1 o2 H g hs0 hs1 hst hlen hx
    obtain ⟨c, H2, a1, a2, a3⟩ := f54_is (M := M) (n := n) (s := s) (ci := ci) (Nat.le_trans hM g.next) (he.grow g) (hw.grow g) gw ge hes
    refine ⟨o1, H2, ?_, g.trans a2, by simpa [walkRun] using hst.grow a2⟩
    have hd : decide (((poss ws es s).length : Int) = 0) = decide (sumW ws es (outs es s) = 0) := by
      rw [decide_eq_decide, ← poss_nil gw]; omega
    rw [f27_1_eq]
    simp only [hst.ints.len, Option.bind_some, show ¬ ((st.length : Int) < steps) by omega, decide_false, Bool.false_eq_true, if_false, a1, ext_tuple, List.getElem?_cons_zero, List.getElem?_cons_succ, asC_c, asI_int, a3.ints.len, hd, walkRun]
  | succ d ih =>
    intro s st o1 o2 H g hs0 hs1 hst hlen hx
    obtain ⟨c, H2, a1, a2, a3⟩ := f54_is (M := M) (n := n) (s := s) (ci := ci) (Nat.le_trans hM g.next) (he.grow g) (hw.grow g) gw ge hes
    have g2 := g.trans a2
    have hpn := poss_nil (ws := ws) (es := es) gw s
    rw [f27_1_eq]
    simp only [hst.ints.len, Option.bind_some, show ((st.length : Int) < steps) by omega, decide_true, if_true, a1, ext_tuple, List.getElem?_cons_zero, List.getElem?_cons_succ, asC_c, asI_int, a3.ints.len]
    by_cases hz : sumW ws es (outs es s) = 0
    · obtain ⟨c2, H3, b1, b2, b3⟩ := f54_is (M := M) (n := n) (s := s) (ci := ci) (Nat.le_trans hM g2.next) (he.grow g2) (hw.grow g2) gw ge hes
      have hl0 : ((poss ws es s).length : Int) = 0 := by have := hpn.2 hz; omega
      refine ⟨o1, H3, ?_, g2.trans b2, by simpa [walkRun, hz] using (hst.grow a2).grow b2⟩
      simp only [hl0, decide_true, if_true, b1, Option.bind_some, ext_tuple, List.getElem?_cons_zero, List.getElem?_cons_succ, asC_c, asI_int, b3.ints.len, walkRun, hz]
    · have hl0 : ¬ (((poss ws es s).length : Int) = 0) := fun h => hz (hpn.1 (by omega))
      have hsb := sumW_bound gw es (outs es s)
      have hpos : 0 < sumW ws es (outs es s) := by omega
      obtain ⟨u0, u1⟩ := numStep_in hx.1 hx.2
      have hiter : nth (st.length + 1 + 1) seed = numStep (nth (st.length + 1) seed) := nth_succ _ _
      have hlo : (outs es s).length ≤ 1000000 := Nat.le_trans (idxs_length _ _ _) hes
      have t0 := Int.tmod_nonneg (sumW ws es (outs es s)) u0
      have t1 := Int.tmod_lt_of_pos (numStep (nth (st.length + 1) seed)) hpos
      obtain ⟨i, hi, him⟩ := pick_some t0 t1
      have hi' : pick ws es (Int.tmod (numStep (nth (st.length + 1) seed)) (sumW ws es (outs es s))) ((poss ws es s).drop 0) = some i := by rw [List.drop_zero, poss_eq, pick_filter gw t0]; exact hi
      obtain ⟨q, r1, r2⟩ := (hlc.grow g2).read (j := st.length + 1) (nums_get (steps + 1) (st.length + 1) seed (by omega))
      have hwr : IntKind.wrap .i64 ((st.length : Int) + 1) = ((st.length + 1 : Nat) : Int) := wrap_succ (by omega)
      have hst2 := hst.grow a2
      have kg : ∀ H', Kept o1 H2 H' → Grow H1 H' := fun H' k => Own.kept_grow hst2 g2 k
      have hpl : (poss ws es s).length ≤ 1000000 := Nat.le_trans (idxs_length _ _ _) hes
      have hpi : ∀ H', Kept o1 H2 H' → Ints H' c (poss ws es s) := fun H' k => a3.ints.kept k (apart_of fun j h1 h2 => by
        have := (Own.id hst h1).2; have := (Own.id a3 h2).1; omega)
      obtain ⟨c5, H5, v1, v2, v3, v4⟩ := f27_2_is (M := M) (n := n) (ci := ci) (x0 := x0) (x1 := (steps : Int)) (y0 := y0) (y1 := y1) (y2 := y2) (lc := lc) (w0 := w0) (o2 := o2) hM (he.grow g2) (hw.grow g2) gw ge a3.ints (fun j hj => poss_ok hj) hpl hst2 (by omega) (fun H' k => ⟨he.grow (kg H' k), hpi H' k⟩)
        (poss ws es s).length 0 _ i (by omega) t0 (by omega) hi'
      obtain ⟨h0i, e, hei⟩ := outs_ok him
      have hto : toOf es i = e.t := by simp only [toOf, hei]
      obtain ⟨_, ⟨ht0, ht1⟩, _⟩ := ge e (List.mem_of_getElem? hei)
      have hll : (st ++ [i]).length + 1 = st.length + 1 + 1 := by simp
      obtain ⟨c6, H6, w1, w2, w3⟩ := ih (toOf es i) (st ++ [i]) c5 o2 H5 (kg H5 v3) (by rw [hto]; exact ht0) (by rw [hto]; exact ht1) v2 (by simp; omega) (by rw [hll, hiter]; exact ⟨u0, u1⟩)
      rw [hll, hiter] at w1 w3
      have e0 : ((0 : Nat) : Int) = 0 := rfl
      rw [e0] at v1
      refine ⟨c6, H6, ?_, w2, ?_⟩
      · simp only [hl0, decide_false, Bool.false_eq_true, if_false, hst2.ints.len, Option.bind_some, hwr, r1, r2, asI_int, hz, hiter, v1, w1, walkRun, hi]
      · simp only [walkRun, hz, if_false, hi]
        simpa using w3
end loops
end Go.Proofs.Ytnnjklkfcleleaa.R
