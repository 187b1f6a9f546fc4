/-
  CHAPTER 20: WalkOf as a whole, and the law of beginnings.
-/
import Derived.Test.YtnnjklkfcleleaaWf
namespace Go.Proofs.Ytnnjklkfcleleaa.R
open Go Go.Proofs.Ytnnjklkfcleleaa.Vm
set_option linter.unusedVariables false
set_option linter.unusedSimpArgs false
variable {M : Mach}

theorem initOK_mem {n : Int} : ∀ {l : List Int} {p : Option Int}, initOK n p l = true → ∀ x ∈ l, 0 ≤ x ∧ x ≤ n - 1
  | [], _, _, x, hx => by cases hx
  | y :: l, p, h, x, hx => by
    simp only [initOK, stOK, Bool.and_eq_true, decide_eq_true_eq] at h
    rcases List.mem_cons.1 hx with rfl | hx
    · exact h.1.1
    · exact initOK_mem h.2 x hx
theorem edgesOK_mem {n : Int} : ∀ {es : List E} {p : Option E}, edgesOK n p es = true → goodE n es
  | [], _, _ => fun e he => by cases he
  | d :: es, p, h => fun e he => by
    simp only [edgesOK, edgeOK, stOK, Bool.and_eq_true, decide_eq_true_eq] at h
    rcases List.mem_cons.1 he with rfl | he
    · obtain ⟨⟨⟨⟨h1, h2⟩, h3⟩, _⟩, _⟩ := h
      exact ⟨by omega, by omega, h3⟩
    · exact edgesOK_mem h.2 e he
theorem isGraph_good {n : Int} {l : List Int} {es : List E} (h : isGraph n l es = true) : (0 ≤ n ∧ n ≤ 400) ∧ es.length ≤ 2000 ∧ (∀ x ∈ l, 0 ≤ x ∧ x < n) ∧ goodE n es := by
  simp only [isGraph, Bool.and_eq_true, decide_eq_true_eq] at h
  obtain ⟨⟨⟨h1, h2⟩, h3⟩, h4⟩ := h
  exact ⟨h1, h2, fun x hx => by have := initOK_mem h3 x hx; omega, edgesOK_mem h4⟩
theorem weightsE_good {ws : List Int} (h : weightsE ws = 0) : goodW ws := by
  unfold weightsE at h
  split at h
  · rename_i h12
    split at h
    · omega
    · rename_i hb
      refine ⟨h12, fun x hx => ?_⟩
      have : badW x = false := by
        cases hbx : badW x with
        | false => rfl
        | true => exact absurd (List.any_eq_true.2 ⟨x, hx, hbx⟩) hb
      simpa [badW] using this
  · omega
def walkErrs (n : Int) (l : List Int) (es : List E) (ws : List Int) (seed steps : Int) : List Int :=
  [if isGraph n l es = true then 0 else 5, weightsE ws, if 1 ≤ seed ∧ seed ≤ 2147483646 then 0 else 3, if 0 ≤ steps ∧ steps ≤ 300 then 0 else 2, if 0 < (l.length : Int) then 0 else 1]
def walkFirst (l : List Int) (seed : Int) : Int := l.getD (Int.tmod (numStep seed) (l.length : Int)).toNat 0
def walkOf (l : List Int) (es : List E) (ws : List Int) (seed steps : Int) : Int × List Int × Bool :=
  (walkFirst l seed, walkRun ws es steps.toNat (numStep seed) (walkFirst l seed))
theorem firstErr5 {a b c d e : Int} (h : firstErr [a, b, c, d, e] = 0) : a = 0 ∧ b = 0 ∧ c = 0 ∧ d = 0 ∧ e = 0 := by
  simp only [firstErr] at h
  by_cases h1 : a = 0 <;> by_cases h2 : b = 0 <;> by_cases h3 : c = 0 <;> by_cases h4 : d = 0 <;> by_cases h5 : e = 0 <;> simp_all

theorem walkFirst_in {l : List Int} {seed : Int} (h0 : 1 ≤ seed) (h1 : seed ≤ 2147483646) (hl : 0 < l.length) : 0 ≤ Int.tmod (numStep seed) (l.length : Int) ∧ (Int.tmod (numStep seed) (l.length : Int)).toNat < l.length ∧ l[(Int.tmod (numStep seed) (l.length : Int)).toNat]? = some (walkFirst l seed) ∧ walkFirst l seed ∈ l := by
  obtain ⟨h2, h3⟩ := numStep_in (x := seed) (by omega) h1
  have h4 := Int.tmod_nonneg (l.length : Int) h2
  have h5 := Int.tmod_lt_of_pos (numStep seed) (show (0 : Int) < l.length by omega)
  have h6 : (Int.tmod (numStep seed) (l.length : Int)).toNat < l.length := by omega
  have h7 : l[(Int.tmod (numStep seed) (l.length : Int)).toNat]? = some (walkFirst l seed) := by
    unfold walkFirst
    rw [List.getD_eq_getElem?_getD, List.getElem?_eq_getElem h6]; rfl
  exact ⟨h4, h6, h7, List.mem_of_getElem? h7⟩

theorem f25_is {n : Int} {ci ce w : C} {l : List Int} {es : List E} {ws : List Int} {seed steps : Int} {H : Heap} (hM : M.lim ≤ H.next) (hi : Ints H ci l) (he : Eds H ce es) (hw : Ints H w ws) (h1 : l.length ≤ 1000000) (h2 : es.length ≤ 1000000) (h3 : ws.length ≤ 1000000) :
    ∃ first c' b st H', f25 M n ci ce w seed steps H = some (.tuple [.agg [.int .i64 first, c', .bool b], .c (.int .i64 (firstErr (walkErrs n l es ws seed steps)))], H') ∧ Grow H H' ∧ OInts H' H.next c' st ∧
      ((first, st, b) = if firstErr (walkErrs n l es ws seed steps) = 0 then walkOf l es ws seed steps else (0, [], false)) := by
  obtain ⟨Ha, a1, a2⟩ := f46_is (M := M) (n := n) hi he h1 h2
  obtain ⟨Hb, b1, b2⟩ := f52_is (M := M) (hw.grow a2) h3
  have gb := a2.trans b2
  have hl := OInts.lit Hb (Nat.le_refl Hb.next) (walkErrs n l es ws seed steps) rfl (n := 5) rfl
  have herr := f41_is (M := M) hl.ints (by simp [walkErrs])
  have gc := gb.to_alloc (.cells 1 ((walkErrs n l es ws seed steps).map (.int .i64)))
  rw [f25_eq]
  simp only [a1, b1, f42_is, f44_is, f43_is, (hi.grow gb).len, Option.bind_some, asC_c, asI_int, asB_bool, hi.len, decide_eq_true_eq]
  have hcells : [C.int .i64 (if isGraph n l es = true then 0 else 5), .int .i64 (weightsE ws), .int .i64 (if 1 ≤ seed ∧ seed ≤ 2147483646 then 0 else 3), .int .i64 (if 0 ≤ steps ∧ steps ≤ 300 then 0 else 2), .int .i64 (if 0 < (l.length : Int) then 0 else 1)] = (walkErrs n l es ws seed steps).map (.int .i64) := rfl
  simp only [hcells, herr, Option.bind_some, asC_c, asI_int]
  by_cases hz : firstErr (walkErrs n l es ws seed steps) = 0
  rotate_left
  · simp only [hz, decide_false, Bool.not_false, if_true, if_false]
    exact ⟨0, .nilSlice, false, [], _, rfl, gc, Own.nil gc.next 1, rfl⟩
  simp only [hz, decide_true, Bool.not_true, Bool.false_eq_true, if_false, if_true]
  obtain ⟨z1, z2, z3, z4, z5⟩ := firstErr5 hz
  have hg : isGraph n l es = true := by by_cases h : isGraph n l es = true; exact h; rw [if_neg h] at z1; omega
  have hseed : 1 ≤ seed ∧ seed ≤ 2147483646 := by by_cases h : 1 ≤ seed ∧ seed ≤ 2147483646; exact h; rw [if_neg h] at z3; omega
  have hsteps : 0 ≤ steps ∧ steps ≤ 300 := by by_cases h : 0 ≤ steps ∧ steps ≤ 300; exact h; rw [if_neg h] at z4; omega
  have hl0 : 0 < l.length := by by_cases h : 0 < (l.length : Int); omega; rw [if_neg h] at z5; omega
  have gw := weightsE_good z2
  obtain ⟨hn, _, hin, ge⟩ := isGraph_good hg
  obtain ⟨co, H1, c1, c2, c3⟩ := f53_is (M := M) (n := n) (ci := ci) (Nat.le_trans hM gc.next) hn.1 (by omega) (he.grow gc) h2 (fun e h => (ge e h).1)
  have g1 := gc.trans c2
  -- the numbers
  have hget : (H1.alloc (.cells 1 [.int .i64 seed])).get H1.next = some (.cells 1 [.int .i64 seed]) := alloc_new _ _
  have k1 := f45_is (M := M) (p := H1.next) (Nat.le_trans hM g1.next) hget
  have g2 : Grow H1 ((H1.alloc (.cells 1 [.int .i64 seed])).put H1.next (.cells 1 [.int .i64 (numStep seed)])) := ⟨by simp, fun i hi => by rw [hput_other (by omega), alloc_old hi]⟩
  obtain ⟨t0, t1, t2, t3⟩ := walkFirst_in (l := l) hseed.1 hseed.2 hl0
  obtain ⟨q, r1, r2⟩ := ((hi.grow g1).grow g2).readI t0 t2
  have hlz : ¬ ((l.length : Int) = 0) := by omega
  obtain ⟨m, rfl⟩ := Int.eq_ofNat_of_zero_le hn.1
  obtain ⟨k, rfl⟩ := Int.eq_ofNat_of_zero_le hsteps.1
  obtain ⟨u0, u1⟩ := numStep_in (x := seed) (by omega) hseed.2
  obtain ⟨v0, v1⟩ := hin _ t3
  obtain ⟨c', H', w1, w2, w3⟩ := f25_1_is (M := M) (n := (m : Int)) (ci := ci) (x0 := seed) (w0 := walkFirst l seed) (y0 := 0) (y1 := .nilSlice) (y2 := false) (H1 := H1) (Nat.le_trans hM g1.next) (p := H1.next) (Nat.le_refl _) (m := m) (steps := k) (by omega) (he.grow g1) (hw.grow g1) gw ge h2 (by simpa using c3) k (numStep seed) (walkFirst l seed) [] .nilSlice false _ g2 (by simp) (put_same _ _ _) u0 u1 v0 v1 (Own.nil g2.next 1) (fun h => by cases h) (by simp)
  refine ⟨walkFirst l seed, c', (walkRun ws es k (numStep seed) (walkFirst l seed)).2, (walkRun ws es k (numStep seed) (walkFirst l seed)).1, H', ?_, g1.trans w2, (by have h := Own.low w3 g1.next; simp only [List.nil_append] at h; exact h), ?_⟩
  · simp only [c1, Option.bind_some, asC_c, k1, asI_int, hlz, if_false, r1, r2]
    exact w1
  · simp [walkOf]

/-! ### prefixes -/
theorem walkRun_length {ws : List Int} {es : List E} : ∀ (d : Nat) (x s : Int), (walkRun ws es d x s).1.length ≤ d
  | 0, _, _ => by simp [walkRun]
  | d + 1, x, s => by
    simp only [walkRun]
    split
    · simp
    · split
      · have := walkRun_length (ws := ws) (es := es) d; simp; exact this _ _
      · simp
/-- a walk with one step less is a beginning; where it is stuck, so is the longer one -/
theorem walkRun_pre {ws : List Int} {es : List E} : ∀ (d : Nat) (x s : Int), (∃ r, (walkRun ws es (d + 1) x s).1 = (walkRun ws es d x s).1 ++ r) ∧ ((walkRun ws es d x s).2 = true → (walkRun ws es (d + 1) x s) = walkRun ws es d x s)
  | 0, x, s => by
    refine ⟨⟨_, by simp [walkRun]; rfl⟩, fun h => ?_⟩
    have h : sumW ws es (outs es s) = 0 := by simpa [walkRun] using h
    simp [walkRun, h]
  | d + 1, x, s => by
    by_cases hz : sumW ws es (outs es s) = 0
    · refine ⟨⟨[], by simp [walkRun, hz]⟩, fun _ => by simp [walkRun, hz]⟩
    · cases hp : pick ws es (Int.tmod (numStep x) (sumW ws es (outs es s))) (outs es s) with
      | none => refine ⟨⟨[], by simp [walkRun, hz, hp]⟩, fun _ => by simp [walkRun, hz, hp]⟩
      | some i =>
        obtain ⟨⟨r, h1⟩, h2⟩ := walkRun_pre (ws := ws) (es := es) d (numStep x) (toOf es i)
        have e1 : walkRun ws es (d + 1 + 1) x s = (i :: (walkRun ws es (d + 1) (numStep x) (toOf es i)).1, (walkRun ws es (d + 1) (numStep x) (toOf es i)).2) := by
          conv => lhs; unfold walkRun
          simp only [hz, if_false, hp]
        have e2 : walkRun ws es (d + 1) x s = (i :: (walkRun ws es d (numStep x) (toOf es i)).1, (walkRun ws es d (numStep x) (toOf es i)).2) := by
          conv => lhs; unfold walkRun
          simp only [hz, if_false, hp]
        rw [e1, e2]
        refine ⟨⟨r, by simp [h1]⟩, fun h => ?_⟩
        rw [h2 h]
theorem pick_weight {ws : List Int} {es : List E} : ∀ {l : List Int} {left i : Int}, 0 ≤ left → pick ws es left l = some i → i ∈ l ∧ 0 < wOf ws es i
  | [], _, _, _, h => by simp [pick] at h
  | j :: l, left, i, h0, h => by
    simp only [pick] at h
    split at h
    · cases h; exact ⟨by simp, by omega⟩
    · obtain ⟨h1, h2⟩ := pick_weight (by omega) h
      exact ⟨by simp [h1], h2⟩
theorem walkRun_good {ws : List Int} {es : List E} (gw : goodW ws) : ∀ (d : Nat) (x s : Int), 0 ≤ x → x ≤ 2147483646 → ∀ i ∈ (walkRun ws es d x s).1, okI es i ∧ wOf ws es i ≠ 0
  | 0, x, s, _, _, i, hi => by simp [walkRun] at hi
  | d + 1, x, s, h0, h1, i, hi => by
    simp only [walkRun] at hi
    split at hi
    · simp at hi
    · split at hi
      · rename_i hz j hp
        obtain ⟨u0, u1⟩ := numStep_in h0 h1
        have hb := sumW_bound gw es (outs es s)
        obtain ⟨k1, k2⟩ := pick_weight (Int.tmod_nonneg _ u0) hp
        rcases List.mem_cons.1 hi with rfl | hi
        · exact ⟨outs_ok k1, by omega⟩
        · exact walkRun_good gw d _ _ u0 u1 i hi
      · simp at hi

/-! ### the law of beginnings -/
theorem f5_1_is {H : Heap} {w ci ce a1 b1 : C} {n a0 b0 : Int} {a2 b2 : Bool} {es : List E} {ws st sb : List Int} (he : Eds H ce es) (hw : Ints H w ws) (gw : goodW ws) (ge : goodE n es) (ha : Ints H a1 st) (hb : Ints H b1 sb)
    (hok : ∀ i ∈ st, okI es i ∧ wOf ws es i ≠ 0) (h1 : st.length ≤ 1000000) (h2 : es.length ≤ 1000000) (hst : b2 = true → st.length = sb.length ∧ a2 = true) : ∀ (d k : Nat), k + d = st.length → f5_1 M w n ci ce a0 a1 a2 b0 b1 b2 (k : Int) H = some (.c (.bool true), H) := by
  intro d
  induction d with
  | zero =>
    intro k hk
    rw [f5_1_eq]
    simp only [ha.len, hb.len, Option.bind_some, show ¬ ((k : Int) < st.length) by omega, decide_false, Bool.false_eq_true, if_false]
    cases b2 with
    | false => simp
    | true =>
      obtain ⟨e1, e2⟩ := hst rfl
      simp [e1, e2]
  | succ d ih =>
    intro k hk
    have hlt : k < st.length := by omega
    obtain ⟨hki, hkw⟩ := hok st[k] (List.getElem_mem hlt)
    obtain ⟨q, c1, c2⟩ := ha.read (List.getElem?_eq_getElem hlt)
    obtain ⟨q4, a, q7, d1, d2, d3, d4⟩ := he.weight hw gw ge hki
    have hwr : IntKind.wrap .i64 ((es.length : Int) - 1) = (es.length : Int) - 1 := wrap_in (by omega) (by omega)
    obtain ⟨h0, e, hx⟩ := hki
    have hb2 : 0 ≤ st[k] ∧ st[k] ≤ (es.length : Int) - 1 := ⟨h0, by have := (List.getElem?_eq_some_iff.1 hx).1; omega⟩
    rw [f5_1_eq]
    simp only [ha.len, he.len, Option.bind_some, show ((k : Int) < st.length) by omega, decide_true, if_true, c1, c2, d1, d2, d3, d4, asI_int, f13_is, hwr, hb2, and_self, asC_c, asB_bool, Bool.not_true, hkw, decide_false, Bool.false_eq_true, if_false, wrap_succ (show k ≤ 1000000000 by omega)]
    exact ih (k + 1) (by omega)

theorem sub_prefix {H : Heap} {lim b : Nat} {c : C} {l r : List Int} (h : OInts H b c (l ++ r)) : ∃ c', Heap.sub lim H 1 c 0 (some (l.length : Int)) = some c' ∧ Ints H c' l := by
  obtain ⟨_, hr, h | ⟨i, o, cs, rfl, _, h2, h3, h4, h5⟩⟩ := h
  · obtain ⟨rfl, h⟩ := h
    have : l = [] := by
      cases l with
      | nil => rfl
      | cons x l => simp at h
    subst this
    exact ⟨.nilSlice, by simp [Heap.sub], Ints.nil H⟩
  · refine ⟨.slice i o l.length, ?_, fun r' hr' => ?_, .inr ⟨i, o, 1, cs, by simp, h2, h3, ?_, ?_⟩⟩
    · have hbad : ¬ (lim ≤ i ∧ H.szBad i 1 = true) := fun ⟨k1, k2⟩ => by simp [Heap.szBad, h3] at k2
      simp only [Heap.sub, hbad, if_false]
      rw [if_pos (by simp; omega)]
      simp
    · obtain ⟨x, hx, rfl⟩ := List.mem_map.1 hr'; rfl
    · simp at h4 ⊢; omega
    · simp only [List.length_map, List.length_append, List.map_append, List.flatten_append] at h5 ⊢
      have e : ((cs.drop o).take ((l.length + r.length) * 1)).take (l.length * 1) = (cs.drop o).take (l.length * 1) := by rw [List.take_take]; congr 1; omega
      rw [← e, h5]
      have hl : (l.map rowI).flatten.length = l.length * 1 := by rw [flat_len' (sz := 1) (fun r' hr' => by obtain ⟨x, hx, rfl⟩ := List.mem_map.1 hr'; rfl)]; simp
      rw [← hl, List.take_left]

theorem f5_is {lim : Nat} {n seed steps : Int} {ci ce w : C} {l ws : List Int} {es : List E} {H : Heap} (hM : lim ≤ H.next) (hi : Ints H ci l) (he : Eds H ce es) (hw : Ints H w ws) :
    ∃ H', f5 (MM lim) n ci ce w seed steps H = some (.c (.bool true), H') := by
  have hM' : (MM lim).lim ≤ H.next := hM
  rw [f5_eq, f10_out]
  simp only [Option.bind_some, asC_c, asB_bool, Bool.not_true, Bool.false_eq_true, if_false, f16_is hi he]
  cases hfew : (decide (n ≤ 20) && decide (l.length ≤ 22) && decide (es.length ≤ 60)) with
  | false =>
    exact ⟨H, rfl⟩
  | true =>
    simp only [Bool.and_eq_true, decide_eq_true_eq] at hfew
    obtain ⟨H1, s1, s2⟩ := f20_is (M := MM lim) (n := n) hi he (by omega) (by omega)
    simp only [Bool.not_true, if_true, s1, Option.bind_some, asC_c, asB_bool]
    cases hg : isGraph n l es with
    | false => exact ⟨H1, rfl⟩
    | true =>
      simp only [Bool.not_true, if_true, hi.len, Option.bind_some]
      by_cases hl0 : l.length = 0
      · exact ⟨H1, by simp [hl0]⟩
      simp only [show ¬ ((l.length : Int) = 0) by omega, decide_false, if_true]
      by_cases hwl2 : ws.length = 12
      rotate_left
      · have h24 : f24 (MM lim) w H1 = some (.c (.int .i64 6), H1) := by
          rw [f24_eq]
          simp only [(hw.grow s2).len, Option.bind_some, show ¬ ((ws.length : Int) = 12) by omega, decide_false, Bool.not_false, if_true]
        exact ⟨H1, by simp [h24]⟩
      simp only [f24_is (hw.grow s2) (by omega), Option.bind_some, asC_c, asI_int]
      by_cases hwe : weightsE ws = 0
      rotate_left
      · exact ⟨H1, by simp [hwe]⟩
      simp only [hwe, decide_true, Bool.not_true, if_true, f12_is, Option.bind_some, asC_c, asI_int]
      by_cases hs : 1 ≤ seed ∧ seed ≤ 2147483646
      rotate_left
      · exact ⟨H1, by simp [hs]⟩
      simp only [hs, and_self, if_true, decide_true, Bool.not_true, f13_is, Option.bind_some, asC_c, asB_bool]
      by_cases hst : 1 ≤ steps ∧ steps ≤ 300
      rotate_left
      · exact ⟨H1, by simp [hst]⟩
      simp only [hst, and_self, decide_true, Bool.not_true, Bool.false_eq_true, if_false]
      have gw := weightsE_good hwe
      obtain ⟨hn, _, hin, ge⟩ := isGraph_good hg
      -- copies and the two walks
      obtain ⟨c1, c2, H2, t1, t2, t3, t4⟩ := f18_is (M := MM lim) (n := n) (hi.grow s2) (he.grow s2) (Nat.le_trans hM' s2.next) (by omega) (by omega)
      have g2 := s2.trans t2
      obtain ⟨c3, H3, u1, u2, u3⟩ := f26_is (M := MM lim) (hw.grow g2) (Nat.le_trans hM' g2.next) (by omega)
      have g3 := g2.trans u2
      obtain ⟨fa, ca, ba, sa, H4, v1, v2, v3, v4⟩ := f25_is (M := MM lim) (n := n) (seed := seed) (steps := steps) (Nat.le_trans hM' g3.next) (t3.grow u2) (t4.grow u2) u3.ints (by omega) (by omega) (by omega)
      have g4 := g3.trans v2
      obtain ⟨d1, d2, H5, w1, w2, w3, w4⟩ := f18_is (M := MM lim) (n := n) (hi.grow g4) (he.grow g4) (Nat.le_trans hM' g4.next) (by omega) (by omega)
      have g5 := g4.trans w2
      obtain ⟨d3, H6, x1, x2, x3⟩ := f26_is (M := MM lim) (hw.grow g5) (Nat.le_trans hM' g5.next) (by omega)
      have g6 := g5.trans x2
      obtain ⟨fb, cb, bb, sb, H7, y1, y2, y3, y4⟩ := f25_is (M := MM lim) (n := n) (seed := seed) (steps := steps - 1) (Nat.le_trans hM' g6.next) (w3.grow x2) (w4.grow x2) x3.ints (by omega) (by omega) (by omega)
      have g7 := g6.trans y2
      have hwr : IntKind.wrap .i64 (steps - 1) = steps - 1 := wrap_in (by omega) (by omega)
      have hl1 : (0 : Int) < l.length := by omega
      have ea : firstErr (walkErrs n l es ws seed steps) = 0 := by unfold walkErrs; rw [if_pos hg, hwe, if_pos hs, if_pos (by omega), if_pos hl1]; rfl
      have eb : firstErr (walkErrs n l es ws seed (steps - 1)) = 0 := by unfold walkErrs; rw [if_pos hg, hwe, if_pos hs, if_pos (by omega), if_pos hl1]; rfl
      rw [ea, if_pos rfl] at v4
      rw [eb, if_pos rfl] at y4
      simp only [walkOf, Prod.mk.injEq] at v4 y4
      obtain ⟨rfl, v4⟩ := v4
      obtain ⟨rfl, y4⟩ := y4
      have v5 := congrArg Prod.fst v4
      have v6 := congrArg Prod.snd v4
      have y5 := congrArg Prod.fst y4
      have y6 := congrArg Prod.snd y4
      simp only at v5 v6 y5 y6
      obtain ⟨d, hd⟩ : ∃ d, steps.toNat = d + 1 := ⟨steps.toNat - 1, by omega⟩
      have hd' : (steps - 1).toNat = d := by omega
      rw [hd] at v5 v6
      rw [hd'] at y5 y6
      obtain ⟨⟨r, p1⟩, p2⟩ := walkRun_pre (ws := ws) (es := es) d (numStep seed) (walkFirst l seed)
      rw [← v5, ← y5] at p1
      have hla : sa.length ≤ d + 1 := by rw [v5]; exact walkRun_length _ _ _
      have v3' : OInts H7 H3.next ca (sb ++ r) := by
        rw [← p1]; exact v3.grow ((w2.trans x2).trans y2)
      obtain ⟨cs, q1, q2⟩ := sub_prefix (lim := (MM lim).lim) v3'
      have hsa : Ints H7 ca sa := (v3.grow ((w2.trans x2).trans y2)).ints
      have hsb : Ints H7 cb sb := y3.ints
      have hle : sb.length ≤ sa.length := by rw [p1]; simp
      obtain ⟨n0, n1⟩ := numStep_in (x := seed) (by omega) hs.2
      have f1 := f5_1_is (M := MM lim) (n := n) (ci := ci) (a0 := walkFirst l seed) (b0 := walkFirst l seed) (a2 := ba) (b2 := bb) (he.grow g7) (hw.grow g7) gw ge hsa hsb (fun i hi' => by rw [v5] at hi'; exact walkRun_good gw _ _ _ n0 n1 i hi') (by omega) (by omega) (fun hb => by
        rw [hb] at y6
        have := p2 y6.symm
        rw [this] at v5 v6
        exact ⟨by rw [v5, y5], by rw [v6, ← y6]⟩) sa.length 0 (by omega)
      have e0 : ((0 : Nat) : Int) = 0 := rfl
      rw [e0] at f1
      have f14 := f14_is (M := MM lim) hsb q2 (by omega)
      refine ⟨H7, ?_⟩
      simp only [t1, Option.bind_some, asA_agg, headC_cons, asI_int, List.drop_succ_cons, List.drop_zero, List.length_nil, if_true, u1, asC_c, v1, ext_tuple, List.getElem?_cons_zero, List.getElem?_cons_succ, asB_bool, ea, w1, x1, hwr, y1, eb, decide_true, Bool.not_true, hsa.len, hsb.len,
        show ¬ ((sa.length : Int) < sb.length) by omega, show ¬ (steps < (sa.length : Int)) by omega, decide_false, q1, f14, Bool.false_eq_true, if_false, f1]
end Go.Proofs.Ytnnjklkfcleleaa.R
