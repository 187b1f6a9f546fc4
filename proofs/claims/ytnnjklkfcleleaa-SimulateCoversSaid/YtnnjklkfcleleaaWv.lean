/-
  CHAPTER 20: the law of tours.
-/
import Derived.Test.YtnnjklkfcleleaaWu
namespace Go.Proofs.Ytnnjklkfcleleaa.R
open Go Go.Proofs.Ytnnjklkfcleleaa.Vm
set_option linter.unusedVariables false
set_option linter.unusedSimpArgs false
variable {M : Mach}

theorem Run.okI {es : List E} : ∀ {s : Int} {r : List Int} {t : Int}, Run es s r t → ∀ k ∈ r, R.okI es k
  | s, [], t, h, k, hk => by cases hk
  | s, j :: r, t, h, k, hk => by
    rcases List.mem_cons.1 hk with rfl | hk
    · exact h.1
    · exact Run.okI h.2.2 k hk
theorem walkGo_run2 {es : List E} : ∀ {s : Int} {r : List Int} {t : Int}, Run es s r t → walkGo es s r = (t, 0)
  | s, [], t, h => by
    have h : s = t := h
    subst h; rfl
  | s, j :: r, t, h => by
    obtain ⟨h1, h2, h3⟩ := h
    obtain ⟨j0, j1⟩ := okI_lt h1
    obtain ⟨_, e, he⟩ := h1
    simp only [walkGo]
    rw [if_pos (by omega), he]
    simp only [frOf, he] at h2
    simp only [toOf, he] at h3
    simp only [h2, if_true]
    exact walkGo_run2 h3
theorem flat_take {sz : Nat} {rows : List (List C)} (h : ∀ r ∈ rows, r.length = sz) {j : Nat} (hj : j ≤ rows.length) : rows.flatten.take (j * sz) = (rows.take j).flatten := by
  have e : rows.flatten = (rows.take j).flatten ++ (rows.drop j).flatten := by rw [← List.flatten_append, List.take_append_drop]
  have hl : (rows.take j).flatten.length = j * sz := by
    rw [flat_len' fun x hx => h x (List.mem_of_mem_take hx), List.length_take, Nat.min_eq_left hj]
  rw [e, List.take_append_of_le_length (by omega), List.take_of_length_le (by omega)]
theorem own_sub0 {H : Heap} {b lim sz j : Nat} {c : C} {rows : List (List C)} (h : Own H b c sz rows) (hj : j < rows.length) : ∃ c', Heap.sub lim H sz c 0 (some (j : Int)) = some c' ∧ Sl H c' sz (rows.take j) := by
  rcases h.2.2 with ⟨rfl, rfl⟩ | ⟨i, o, cs, rfl, h2, h3, h4, h5, h6⟩
  · simp at hj
  · have hbad : ¬ (lim ≤ i ∧ H.szBad i sz = true) := fun ⟨_, k2⟩ => by simp [Heap.szBad, h4] at k2
    have hle : j * sz ≤ rows.length * sz := Nat.mul_le_mul_right _ (Nat.le_of_lt hj)
    have hlen : (rows.take j).length = j := by rw [List.length_take]; omega
    refine ⟨.slice i o j, ?_, fun r hr => h.2.1 r (List.mem_of_mem_take hr), .inr ⟨i, o, sz, cs, by rw [hlen], h3, h4, by rw [hlen]; omega, ?_⟩⟩
    · simp only [Heap.sub, hbad, if_false, Option.getD_some]
      rw [if_pos (by omega)]
      simp
    · rw [hlen, ← flat_take h.2.1 (Nat.le_of_lt hj), ← h6, List.take_take, Nat.min_eq_left hle]

section law
variable {n most : Int} {ci ce : C} {es : List E} {l : List Int}
theorem f8_1_is {H : Heap} {N : Nat} {lc far call : C} {e : Int} {all d : List Int} (he : Eds H ce es) (ge : goodE (N : Int) es) (hd : Ints H far d) (hdl : d.length = N) (hdb : ∀ x ∈ d, -1 ≤ x ∧ x ≤ 100000) (ha : Ints H call all) (hal : all.length ≤ 1000000) (hall : ∀ i ∈ all, okI es i) : ∀ (m k : Nat), k + m = all.length →
    if (all.drop k).any (tooFar most d es) = true then (e = 25 → lc = .nilSlice → f8_1 M most n ci ce lc e far call (k : Int) H = some (.c (.bool true), H))
    else f8_1 M most n ci ce lc e far call (k : Int) H = f8_1 M most n ci ce lc e far call (all.length : Int) H := by
  intro m
  induction m with
  | zero =>
    intro k hk
    obtain rfl : k = all.length := by omega
    rw [List.drop_of_length_le (Nat.le_refl _)]
    simp
  | succ m ih =>
    intro k hk
    have hlt : k < all.length := by omega
    obtain ⟨q, a1, a2⟩ := ha.read (List.getElem?_eq_getElem hlt)
    have hok := hall _ (List.getElem_mem hlt)
    obtain ⟨q4, b1, b2⟩ := he.source hok
    obtain ⟨f0, f1⟩ := frOf_in ge hok
    have hg := getD_of (l := d) (i := (frOf es all[k]).toNat) (by rw [hdl]; exact f1) 0
    obtain ⟨q7, c1, c2⟩ := hd.readI f0 hg
    have hbd := hdb _ (List.mem_of_getElem? hg)
    have hw : IntKind.wrap .i64 (d.getD (frOf es all[k]).toNat 0 + 1) = d.getD (frOf es all[k]).toNat 0 + 1 := wrap_in (by omega) (by omega)
    have heq : f8_1 M most n ci ce lc e far call (k : Int) H = (if most ≤ d.getD (frOf es all[k]).toNat 0 then (if decide (e = 25) = true then (C.len lc).bind fun k12 => some (decide (((k12 : Nat) : Int) = 0), H) else some (decide (e = 25), H)).bind fun q11 => some (.c (.bool q11.1), q11.2) else f8_1 M most n ci ce lc e far call ((k + 1 : Nat) : Int) H) := by
      rw [f8_1_eq]
      simp only [ha.len, show ((k : Int) < all.length) by omega, decide_true, if_true, a1, a2, b1, b2, c1, c2, Option.bind_some, asI_int, hw, wrap_succ (show k ≤ 1000000000 by omega)]
      by_cases hf : most ≤ d.getD (frOf es all[k]).toNat 0
      · rw [if_pos hf]; simp only [show most < d.getD (frOf es all[k]).toNat 0 + 1 by omega, decide_true, if_true]
      · rw [if_neg hf]; simp only [show ¬ most < d.getD (frOf es all[k]).toNat 0 + 1 by omega, decide_false, Bool.false_eq_true, if_false]
    rw [List.drop_eq_getElem_cons hlt, List.any_cons, heq]
    have hi := ih (k + 1) (by omega)
    by_cases hf : most ≤ d.getD (frOf es all[k]).toNat 0
    · have ht : tooFar most d es all[k] = true := decide_eq_true hf
      rw [ht, Bool.true_or, if_pos rfl, if_pos hf]
      rintro rfl rfl
      simp
    · have ht : tooFar most d es all[k] = false := decide_eq_false hf
      rw [ht, Bool.false_or, if_neg hf]
      exact hi

theorem f8_2_is {H0 : Heap} {N b : Nat} {lc : C} {ps : List (Wk × C)} (hM : M.lim ≤ H0.next) (hn : 0 ≤ n ∧ n ≤ 400) (hin : ∀ s ∈ l, 0 ≤ s ∧ s < n) (he : Eds H0 ce es) (ge : goodE n es) (hes : es.length ≤ 1000000) (hmost : most ≤ 300) (hw : Wks H0 lc ps) (ho : Own H0 b lc 3 (ps.map rowW)) (hps : ps.length ≤ 60) (hok : okWalks l es most (ps.map Prod.fst)) : ∀ (m j : Nat) (H : Heap), j + m = ps.length → Grow H0 H →
    ∃ H', f8_2 M most n ci ce lc (j : Int) H = f8_2 M most n ci ce lc (ps.length : Int) H' ∧ Grow H0 H' := by
  have hwin : ∀ p ∈ ps, wIn n.toNat es p.1 ∧ p.1.st.length ≤ 300 := fun p hp => by
    obtain ⟨q, hq⟩ := List.getElem?_of_mem (List.mem_map_of_mem (f := Prod.fst) hp)
    obtain ⟨h1, ⟨e, h2⟩, h3, _⟩ := hok q p.1 hq
    have := hin _ h1
    exact ⟨⟨by omega, by omega, Run.okI h2⟩, by omega⟩
  intro m
  induction m with
  | zero =>
    intro j H hj g
    obtain rfl : j = ps.length := by omega
    exact ⟨H, rfl, g⟩
  | succ m ih =>
    intro j H hj g
    have hlt : j < ps.length := by omega
    have hpj := List.getElem?_eq_getElem hlt
    obtain ⟨q, a1, a2, a3, a4, a5⟩ := (hw.grow g).read hpj
    obtain ⟨w1, w2, w3, z, ⟨Y, w4⟩, w5⟩ := hok j ps[j].1 (by simp [hlt])
    obtain ⟨c6, b1, b2⟩ := own_sub0 (lim := M.lim) (ho.grow g) (j := j) (by simpa using hlt)
    have hw6 : Wks H c6 (ps.take j) := ⟨by rw [List.map_take]; exact b2, fun p hp => ((hw.grow g).2 p (List.mem_of_mem_take hp))⟩
    obtain ⟨c0, c1, H1, d1, d2⟩ := f35_is (M := M) (n := n) (ci := ci) (Nat.le_trans hM g.next) hn (he.grow g) ge hes hw6 (fun p hp => by have := hwin p (List.mem_of_mem_take hp); exact ⟨this.1, by omega⟩) (by rw [List.length_take]; omega)
    have g1 := g.trans d2.g
    obtain ⟨q', a1', a2', a3', a4', a5'⟩ := (hw.grow g1).read hpj
    rw [a1] at a1'; cases a1'
    have hsl : ps[j].1.st.length = Y.length + 1 := by rw [w4]; simp
    have hz : ps[j].1.st[Y.length]? = some z := by rw [w4]; simp
    obtain ⟨q13, e1, e2⟩ := a5'.read hz
    have hzok : okI es z := (hwin _ (List.getElem_mem hlt)).1.2.2 z (by rw [w4]; simp)
    obtain ⟨z0, z1⟩ := okI_lt hzok
    obtain ⟨cl, ct⟩ := cov_length n.toNat es ((ps.take j).map Prod.fst)
    obtain ⟨q16, i1, i2⟩ := d2.o1.ints.readI z0 (getD_of (by rw [ct]; exact z1) 0)
    have hcnt : (cov n.toNat es ((ps.take j).map Prod.fst)).2.getD z.toNat 0 = 0 := by
      have hfl : ∀ ws : List (Wk × C), (∀ p ∈ ws, p.1.st.length ≤ 300) → ((ws.map Prod.fst).map Wk.st).flatten.length ≤ ws.length * 300 := by
        intro ws
        induction ws with
        | nil => intro _; simp
        | cons w ws ihw =>
          intro h
          have := ihw fun p hp => h p (by simp [hp])
          have := h w (by simp)
          simp only [List.map_cons, List.flatten_cons, List.length_append, List.length_cons]
          omega
      rw [cov_count (fun w hw i hi => by
        obtain ⟨p, hp, rfl⟩ := List.mem_map.1 hw
        exact (hwin p (List.mem_of_mem_take hp)).1.2.2 i hi) (by
        have := hfl (ps.take j) fun p hp => (hwin p (List.mem_of_mem_take hp)).2
        have hl : (ps.take j).length ≤ 60 := by rw [List.length_take]; omega
        omega)]
      have : (z.toNat : Int) ∉ (((ps.take j).map Prod.fst).map Wk.st).flatten := fun hmem => by
        rw [Int.toNat_of_nonneg z0, List.mem_flatten] at hmem
        obtain ⟨st, hst, hzs⟩ := hmem
        obtain ⟨w, hw', rfl⟩ := List.mem_map.1 hst
        rw [← List.map_take] at w5
        exact w5 w hw' hzs
      rw [List.count_eq_zero.2 this]; rfl
    obtain ⟨H', y1, y2⟩ := ih (j + 1) H1 (by omega) g1
    refine ⟨H', ?_, y2⟩
    rw [f8_2_eq]
    simp only [hw.len, show ((j : Int) < ps.length) by omega, decide_true, if_true, a1, a3, a5.len, Option.bind_some, hsl, show ¬ (((Y.length + 1 : Nat) : Int) = 0) by omega, decide_false, show ¬ (most < ((Y.length + 1 : Nat) : Int)) by omega, Bool.false_eq_true, if_false, b1, d1, asA_agg, headC_cons, List.drop_succ_cons, List.drop_zero, List.length_nil, a3', wrap_pred (show Y.length + 1 ≤ 1000000000 by omega) (show 1 ≤ Y.length + 1 by omega), Nat.add_sub_cancel, e1, e2, asI_int, i1, i2, hcnt, Int.lt_irrefl, wrap_succ (show j ≤ 1000000000 by omega)]
    exact y1

theorem f8_is {lim : Nat} {H : Heap} (hM : lim ≤ H.next) (hi : Ints H ci l) (he : Eds H ce es) : ∃ H', f8 (MM lim) n ci ce most H = some (.c (.bool true), H') := by
  have hM' : (MM lim).lim ≤ H.next := hM
  rw [f8_eq, f10_out]
  simp only [Option.bind_some, asC_c, asB_bool, Bool.not_true, Bool.false_eq_true, if_false, f16_is hi he]
  cases hfew : (decide (n ≤ 20) && decide (l.length ≤ 22) && decide (es.length ≤ 60)) with
  | false => exact ⟨H, rfl⟩
  | true =>
    simp only [Bool.and_eq_true, decide_eq_true_eq] at hfew
    obtain ⟨c1, c2, H2, t1, t2, t3, t4⟩ := f18_is (M := MM lim) (n := n) hi he hM' (by omega) (by omega)
    obtain ⟨c, e, H3, s1, s2, s3⟩ := f32_is (M := MM lim) (n := n) (most := most) (Nat.le_trans hM' t2.next) t3 t4 (by omega) (by omega)
    have g3 := t2.trans s2
    obtain ⟨H4, u1, u2⟩ := f20_is (M := MM lim) (n := n) (hi.grow g3) (he.grow g3) (by omega) (by omega)
    have g4 := g3.trans u2
    simp only [Bool.not_true, Bool.false_eq_true, if_false, t1, Option.bind_some, asA_agg, headC_cons, asI_int, List.drop_succ_cons, List.drop_zero, List.length_nil, if_true, s1, ext_tuple, List.getElem?_cons_zero, List.getElem?_cons_succ, asC_c, u1, asB_bool]
    cases hg : isGraph n l es with
    | false =>
      rw [if_neg (by rw [hg]; simp)] at s3
      obtain ⟨rfl, rfl⟩ := s3
      exact ⟨H4, by simp⟩
    | true =>
      rw [if_pos hg] at s3
      simp only [Bool.not_true, Bool.false_eq_true, if_false, f13_is, Option.bind_some, asC_c, asB_bool]
      by_cases hm : 1 ≤ most ∧ most ≤ 300
      rotate_left
      · rw [if_neg hm] at s3
        obtain ⟨rfl, rfl⟩ := s3
        refine ⟨H4, ?_⟩
        simp only [hm, decide_false, Bool.not_false, if_true]
        simp
      rw [if_pos hm] at s3
      obtain ⟨hn, hes, hin, ge⟩ := isGraph_good hg
      have hnn : ((n.toNat : Nat) : Int) = n := by omega
      obtain ⟨cf, H5, v1, v2, v3⟩ := f22_is (M := MM lim) (n := n) (Nat.le_trans hM' g4.next) hn (hi.grow g4) (by omega) (he.grow g4) ge (by omega)
      have g5 := g4.trans v2
      obtain ⟨ca, H6, w1, w2, w3⟩ := f33_is (M := MM lim) (n := n) (ps := []) (Nat.le_trans hM' g5.next) hn (hi.grow g5) (by omega) (he.grow g5) ge (by omega) (Wks.nil H5) (fun p hp => by cases hp) (by simp)
      have g6 := g5.trans w2
      have hall : unc es (rnds es n.toNat 0 (dist0 n.toNat l)) (cov n.toNat es (([] : List (Wk × C)).map Prod.fst)).2 0 es = allOf n l es := unc_zero (fun k => cov_nil n.toNat es k) es 0
      rw [hall] at w3
      have hdl : (distOf n l es).length = n.toNat := by unfold distOf; rw [rnds_length]; simp [dist0]
      have hdb : ∀ x ∈ distOf n l es, -1 ≤ x ∧ x ≤ 100000 := rnds_bound (K := 100000) n.toNat es 0 _ (by omega) (by omega) (fun x hx => by
        obtain ⟨s, _, rfl⟩ := List.mem_map.1 hx
        split <;> omega)
      have hmem : ∀ i ∈ allOf n l es, okI es i := fun i hi => by unfold allOf at hi; rw [unc_ok] at hi; exact hi.1
      have hal : (allOf n l es).length ≤ 60 := by have := unc_len (es := es) (far := distOf n l es) (T := []) es 0; unfold allOf; omega
      have h1 := f8_1_is (M := MM lim) (n := n) (most := most) (ci := ci) (lc := c) (e := e) (N := n.toNat) (d := distOf n l es) (he.grow g6) (by rw [hnn]; exact ge) (v3.ints.grow w2) hdl hdb w3.ints (by omega) hmem (allOf n l es).length 0 (by omega)
      have e0 : ((0 : Nat) : Int) = 0 := rfl
      rw [e0, List.drop_zero] at h1
      simp only [hm, and_self, decide_true, Bool.not_true, Bool.false_eq_true, if_false, v1, w1, Option.bind_some, asC_c]
      by_cases hany : (allOf n l es).any (tooFar most (distOf n l es) es) = true
      · rw [if_pos hany] at h1 s3
        obtain ⟨rfl, rfl⟩ := s3
        exact ⟨H6, h1 rfl rfl⟩
      · rw [if_neg hany] at h1 s3
        obtain ⟨rfl, bb, ps, p1, p2, p3⟩ := s3
        rw [h1, f8_1_eq]
        have gps : Grow H3 H6 := (u2.trans v2).trans w2
        have hlen := (p1.grow gps).len
        have hpl : ps.length ≤ 60 := by have := p3.few; simp at this; omega
        have hst : ∀ p ∈ ps, p.1.st.length ≤ 300 := fun p hp => by
          obtain ⟨q, hq⟩ := List.getElem?_of_mem (List.mem_map_of_mem (f := Prod.fst) hp)
          have := (p3.ok q p.1 hq).2.2.1
          omega
        obtain ⟨H7, x1, x2⟩ := f34_is (M := MM lim) (n := n) (hi.grow g6) (he.grow g6) (by omega) (by omega) (p1.grow gps) (by omega) (fun p hp => by have := hst p hp; omega)
        have hfb : ∀ ws : List Wk, (∀ w ∈ ws, w.f ∈ l ∧ (∃ e, Run es w.f w.st e) ∧ w.st.length ≤ 300) → firstBad n l es ws = 0 := by
          intro ws
          induction ws with
          | nil => intro _; rfl
          | cons w ws ihw =>
            intro h
            obtain ⟨k1, ⟨e, k2⟩, k3⟩ := h w (by simp)
            have hc : checkRes n l es w.f w.st = (e, 0) := by
              unfold checkRes walkRes
              rw [if_pos hg, if_neg (by omega), if_pos k1, walkGo_run2 k2]
            simp only [firstBad, hc, ne_eq, not_true, if_false]
            exact ihw fun w' hw' => h w' (by simp [hw'])
        have hz : firstBad n l es (ps.map Prod.fst) = 0 := hfb _ fun w hw => by
          obtain ⟨q, hq⟩ := List.getElem?_of_mem hw
          obtain ⟨k1, k2, k3, _⟩ := p3.ok q w hq
          exact ⟨k1, k2, by omega⟩
        rw [if_pos hg, if_neg (by omega), hz] at x1
        have gps7 := gps.trans x2
        have g7 := g6.trans x2
        obtain ⟨H8, y1, y2⟩ := f8_2_is (M := MM lim) (N := n.toNat) (n := n) (ci := ci) (Nat.le_trans hM' g7.next) hn hin (he.grow g7) ge (by omega) hm.2 (p1.grow gps7) (p2.grow gps7) hpl p3.ok ps.length 0 H7 (by omega) (.refl _)
        rw [e0] at y1
        have g8 := g7.trans y2
        obtain ⟨cu, H9, z1, z2, z3⟩ := f33_is (M := MM lim) (n := n) (Nat.le_trans hM' g8.next) hn (hi.grow g8) (by omega) (he.grow g8) ge (by omega) ((p1.grow gps7).grow y2) (fun p hp => by
          obtain ⟨q, hq⟩ := List.getElem?_of_mem (List.mem_map_of_mem (f := Prod.fst) hp)
          obtain ⟨k1, ⟨e, k2⟩, k3, _⟩ := p3.ok q p.1 hq
          have := hin _ k1
          exact ⟨⟨by omega, by omega, Run.okI k2⟩, by omega⟩) (by omega)
        have hnil : unc es (rnds es n.toNat 0 (dist0 n.toNat l)) (cov n.toNat es (ps.map Prod.fst)).2 0 es = [] := by
          rw [List.eq_nil_iff_forall_not_mem]
          intro i hi
          rw [unc_ok] at hi
          obtain ⟨k1, k2, k3⟩ := hi
          obtain ⟨w, hw, hws⟩ := p3.all i (by unfold allOf; rw [unc_ok]; exact ⟨k1, k2, by simp⟩)
          have hokw : ∀ w ∈ ps.map Prod.fst, ∀ i ∈ w.st, okI es i := fun w hw => by
            obtain ⟨q, hq⟩ := List.getElem?_of_mem hw
            obtain ⟨_, ⟨e, k2⟩, _⟩ := p3.ok q w hq
            exact Run.okI k2
          have hfl : ∀ ws : List (Wk × C), (∀ p ∈ ws, p.1.st.length ≤ 300) → ((ws.map Prod.fst).map Wk.st).flatten.length ≤ ws.length * 300 := by
            intro ws
            induction ws with
            | nil => intro _; simp
            | cons w ws ihw =>
              intro h
              have := ihw fun p hp => h p (by simp [hp])
              have := h w (by simp)
              simp only [List.map_cons, List.flatten_cons, List.length_append, List.length_cons]
              omega
          rw [cov_count hokw (by have := hfl ps hst; omega), Int.toNat_of_nonneg k1.1] at k3
          have : 0 < ((ps.map Prod.fst).map Wk.st).flatten.count i := List.count_pos_iff.2 (List.mem_flatten.2 ⟨w.st, List.mem_map_of_mem hw, hws⟩)
          omega
        rw [hnil] at z3
        refine ⟨H9, ?_⟩
        simp only [w3.ints.len, hlen, Option.bind_some, Int.lt_irrefl, decide_false, Bool.false_eq_true, if_false, decide_true, Bool.not_true, if_true, show ¬ (((allOf n l es).length : Int) < (ps.length : Int)) by have := p3.few; simp at this; omega, x1, asC_c, asI_int, y1]
        rw [f8_2_eq]
        simp only [((p1.grow gps7).grow y2).len, Option.bind_some, Int.lt_irrefl, decide_false, Bool.false_eq_true, if_false, z1, asC_c, z3.ints.len]
        simp
end law
end Go.Proofs.Ytnnjklkfcleleaa.R
