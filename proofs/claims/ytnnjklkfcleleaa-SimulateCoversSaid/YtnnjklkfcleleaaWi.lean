/-
  CHAPTER 20: the law of walks.
-/
import Derived.Test.YtnnjklkfcleleaaWh
namespace Go.Proofs.Ytnnjklkfcleleaa.R
open Go Go.Proofs.Ytnnjklkfcleleaa.Vm
set_option linter.unusedVariables false
set_option linter.unusedSimpArgs false
variable {M : Mach}

theorem f27_is {H : Heap} (hM : M.lim ≤ H.next) {ci ce w : C} {n seed steps : Int} {l ws : List Int} {es : List E} (hi : Ints H ci l) (he : Eds H ce es) (hw : Ints H w ws) (hg : isGraph n l es = true) (gw : goodW ws) (hs : 1 ≤ seed ∧ seed ≤ 2147483646) (hst : 0 ≤ steps ∧ steps ≤ 300) (hl0 : 0 < l.length) :
    ∃ c' H', f27 M n ci ce w seed steps H = some (.agg [.int .i64 (walkFirst l seed), c', .bool (walkOf l es ws seed steps).2.2], H') ∧ Grow H H' ∧ Ints H' c' (walkOf l es ws seed steps).2.1 := by
  obtain ⟨hn, hel, hin, ge⟩ := isGraph_good hg
  have hwr : IntKind.wrap .i64 (steps + 1) = steps + 1 := wrap_in (by omega) (by omega)
  obtain ⟨lc, H1, a1, a2, a3⟩ := f15_is (M := M) hM seed (steps + 1) (by omega) (by omega)
  obtain ⟨m, rfl⟩ := Int.eq_ofNat_of_zero_le hn.1
  obtain ⟨k, rfl⟩ := Int.eq_ofNat_of_zero_le hst.1
  have hk : ((k : Int) + 1).toNat = k + 1 := by omega
  rw [hk] at a3
  obtain ⟨q, r1, r2⟩ := a3.ints.read (j := 0) (nums_get (k + 1) 0 seed (by omega))
  obtain ⟨t0, t1, t2, t3⟩ := walkFirst_in (l := l) hs.1 hs.2 hl0
  obtain ⟨q', u1, u2⟩ := (hi.grow a2).readI t0 t2
  obtain ⟨v0, v1⟩ := hin _ t3
  have hn1 := numStep_in (x := seed) (by omega) hs.2
  obtain ⟨c', H', b1, b2, b3⟩ := f27_1_is (M := M) (n := (m : Int)) (ci := ci) (x0 := seed) (w0 := walkFirst l seed) (y0 := 0) (y1 := .nilSlice) (y2 := false) (H1 := H1) (Nat.le_trans hM a2.next) (m := m) (steps := k) (seed := seed) (by omega) hs.2 (by omega) a3.ints (he.grow a2) (hw.grow a2) gw ge (by omega) k (walkFirst l seed) [] .nilSlice false H1 (.refl _) v0 v1 (Own.nil (Nat.le_refl _) 1) (by simp) hn1
  have hlz : ¬ ((l.length : Int) = 0) := by omega
  have e0 : ((0 : Nat) : Int) = 0 := rfl
  rw [e0] at r1
  have e1 : nth (0 + 1) seed = numStep seed := rfl
  rw [e1] at r2
  refine ⟨c', H', ?_, a2.trans b2, ?_⟩
  · rw [f27_eq]
    simp only [hwr, a1, Option.bind_some, asC_c, r1, r2, asI_int, hi.len, hlz, if_false, u1, u2]
    exact b1
  · have h := b3.ints
    simp only [List.nil_append, List.length_nil] at h
    exact h
theorem f21_is {a b : C} {la lb : List Int} {a0 b0 : Int} {a2 b2 : Bool} {H : Heap} (ha : Ints H a la) (hb : Ints H b lb) (hn : la.length ≤ 1000000) : f21 M a0 a a2 b0 b b2 H = some (.c (.bool (decide (a0 = b0) && (a2 == b2) && decide (la = lb))), H) := by
  rw [f21_eq]
  by_cases h : a0 = b0
  · cases hc : (a2 == b2) <;> simp [h, hc, f14_is ha hb hn]
  · simp [h]

theorem walkGo_run {ws : List Int} {es : List E} (gw : goodW ws) : ∀ (d : Nat) (x s : Int), 0 ≤ x → x ≤ 2147483646 → (walkGo es s (walkRun ws es d x s).1).2 = 0
  | 0, x, s, _, _ => by simp [walkRun, walkGo]
  | d + 1, x, s, h0, h1 => by
    simp only [walkRun]
    split
    · simp [walkGo]
    · split
      · rename_i hz i hp
        obtain ⟨u0, u1⟩ := numStep_in h0 h1
        obtain ⟨k1, _⟩ := pick_weight (Int.tmod_nonneg _ u0) hp
        obtain ⟨h2, e, h3, h4⟩ := outs_mem k1
        have hlt := (List.getElem?_eq_some_iff.1 h3).1
        have hto : toOf es i = e.t := by simp only [toOf, h3]
        simp only [walkGo, h3, h4, if_true, show 0 ≤ i ∧ i ≤ (es.length : Int) - 1 by omega, and_self, ← hto]
        exact walkGo_run gw d _ _ u0 u1
      · simp [walkGo]

section law
variable {lim : Nat} {n seed steps : Int} {ci ce w : C} {l ws : List Int} {es : List E} {H : Heap} {y0 : Int} {y1 : C} {y2 : Bool}
theorem chain (a b c d e : Int) : (if (if (if (if a = 0 then b else a) = 0 then c else (if a = 0 then b else a)) = 0 then d else (if (if a = 0 then b else a) = 0 then c else (if a = 0 then b else a))) = 0 then e else (if (if (if a = 0 then b else a) = 0 then c else (if a = 0 then b else a)) = 0 then d else (if (if a = 0 then b else a) = 0 then c else (if a = 0 then b else a)))) = firstErr [a, b, c, d, e] := by
  simp only [firstErr]
  by_cases h1 : a = 0
  · simp only [h1, if_true]
    by_cases h2 : b = 0
    · simp only [h2, if_true]
      by_cases h3 : c = 0
      · simp only [h3, if_true]
        by_cases h4 : d = 0
        · simp only [h4, if_true]
          by_cases h5 : e = 0 <;> simp [h5]
        · simp [h4]
      · simp [h3]
    · simp [h2]
  · simp [h1]
theorem f6_1_is (hw : Ints H w ws) (hwl : ws.length ≤ 1000000) (e c : Int) : f6_1 M w n ci ce seed steps y0 y1 y2 e c H = f6_2 M w n ci ce seed steps y0 y1 y2 e (if c = 0 then weightsE ws else c) H := by
  rw [f6_1_eq]
  by_cases h : c = 0
  · simp only [h, decide_true, if_true, f24_is hw hwl, Option.bind_some, asC_c, asI_int]
  · simp only [h, decide_false, Bool.false_eq_true, if_false]
theorem f6_2_is (e c : Int) : f6_2 M w n ci ce seed steps y0 y1 y2 e c H = f6_3 M w n ci ce seed steps y0 y1 y2 e (if c = 0 then (if 1 ≤ seed ∧ seed ≤ 2147483646 then 0 else 3) else c) H := by
  rw [f6_2_eq]
  by_cases h : c = 0
  · simp only [h, decide_true, if_true, f12_is, Option.bind_some, asC_c, asI_int]
  · simp only [h, decide_false, Bool.false_eq_true, if_false]
theorem f6_3_is (e c : Int) : f6_3 M w n ci ce seed steps y0 y1 y2 e c H = f6_4 M w n ci ce seed steps y0 y1 y2 e (if c = 0 then (if 0 ≤ steps ∧ steps ≤ 300 then 0 else 2) else c) H := by
  rw [f6_3_eq]
  by_cases h : c = 0
  · simp only [h, decide_true, if_true, f13_is, Option.bind_some, asC_c, asB_bool]
    by_cases h2 : 0 ≤ steps ∧ steps ≤ 300
    · simp only [h2, and_self, decide_true, Bool.not_true, Bool.false_eq_true, if_false, if_true]
    · simp only [h2, decide_false, Bool.not_false, if_true, if_false]
  · simp only [h, decide_false, Bool.false_eq_true, if_false, Option.bind_some]
theorem f6_4_is (hi : Ints H ci l) (e c : Int) : f6_4 M w n ci ce seed steps y0 y1 y2 e c H = f6_5 M w n ci ce seed steps y0 y1 y2 e (if c = 0 then (if 0 < (l.length : Int) then 0 else 1) else c) H := by
  rw [f6_4_eq]
  by_cases h : c = 0
  · simp only [h, decide_true, if_true, hi.len, Option.bind_some]
    by_cases h2 : (l.length : Int) = 0
    · simp only [h2, decide_true, if_true]; rfl
    · simp only [h2, decide_false, Bool.false_eq_true, if_false]
      rw [if_pos (by omega)]
  · simp only [h, decide_false, Bool.false_eq_true, if_false, Option.bind_some]

theorem f6_is (hM : lim ≤ H.next) (hi : Ints H ci l) (he : Eds H ce es) (hw : Ints H w ws) : ∃ H', f6 (MM lim) n ci ce w seed steps H = some (.c (.bool true), H') := by
  have hM' : (MM lim).lim ≤ H.next := hM
  rw [f6_eq, f10_out]
  simp only [Option.bind_some, asC_c, asB_bool, Bool.not_true, Bool.false_eq_true, if_false, f16_is hi he]
  cases hfew : (decide (n ≤ 20) && decide (l.length ≤ 22) && decide (es.length ≤ 60)) with
  | false => exact ⟨H, rfl⟩
  | true =>
    simp only [Bool.and_eq_true, decide_eq_true_eq] at hfew
    simp only [Bool.not_true, if_true, hw.len, Option.bind_some]
    by_cases hwl : (14 : Int) < ws.length
    · exact ⟨H, by simp [hwl]⟩
    simp only [hwl, decide_false, Bool.false_eq_true, if_false]
    obtain ⟨c1, c2, H2, t1, t2, t3, t4⟩ := f18_is (M := MM lim) (n := n) hi he hM' (by omega) (by omega)
    obtain ⟨c3, H3, u1, u2, u3⟩ := f26_is (M := MM lim) (hw.grow t2) (Nat.le_trans hM' t2.next) (by omega)
    have g3 := t2.trans u2
    obtain ⟨fa, ca, ba, sa, H4, v1, v2, v3, v4⟩ := f25_is (M := MM lim) (n := n) (seed := seed) (steps := steps) (Nat.le_trans hM' g3.next) (t3.grow u2) (t4.grow u2) u3.ints (by omega) (by omega) (by omega)
    have g4 := g3.trans v2
    obtain ⟨H5, x1, x2⟩ := f20_is (M := MM lim) (n := n) (hi.grow g4) (he.grow g4) (by omega) (by omega)
    have g5 := g4.trans x2
    have start : ∀ c, f6_1 (MM lim) w n ci ce seed steps fa ca ba (firstErr (walkErrs n l es ws seed steps)) c H5 = f6_5 (MM lim) w n ci ce seed steps fa ca ba (firstErr (walkErrs n l es ws seed steps)) (firstErr [c, weightsE ws, if 1 ≤ seed ∧ seed ≤ 2147483646 then 0 else 3, if 0 ≤ steps ∧ steps ≤ 300 then 0 else 2, if 0 < (l.length : Int) then 0 else 1]) H5 := fun c => by
      rw [f6_1_is (hw.grow g5) (by omega), f6_2_is, f6_3_is, f6_4_is (hi.grow g5), chain]
    have fin : ∃ H', f6_5 (MM lim) w n ci ce seed steps fa ca ba (firstErr (walkErrs n l es ws seed steps)) (firstErr (walkErrs n l es ws seed steps)) H5 = some (.c (.bool true), H') := by
      rw [f6_5_eq]
      by_cases hz : firstErr (walkErrs n l es ws seed steps) = 0
      · rw [if_pos hz] at v4
        obtain ⟨z1, z2, z3, z4, z5⟩ := firstErr5 hz
        have hg : isGraph n l es = true := by by_cases h : isGraph n l es = true; exact h; rw [if_neg h] at z1; omega
        have hs : 1 ≤ seed ∧ seed ≤ 2147483646 := by by_cases h : 1 ≤ seed ∧ seed ≤ 2147483646; exact h; rw [if_neg h] at z3; omega
        have hst : 0 ≤ steps ∧ steps ≤ 300 := by by_cases h : 0 ≤ steps ∧ steps ≤ 300; exact h; rw [if_neg h] at z4; omega
        have hl0 : 0 < l.length := by by_cases h : 0 < (l.length : Int); omega; rw [if_neg h] at z5; omega
        have gw := weightsE_good z2
        obtain ⟨c6, H6, y1', y2', y3'⟩ := f27_is (M := MM lim) (Nat.le_trans hM' g5.next) (hi.grow g5) (he.grow g5) (hw.grow g5) hg gw hs hst hl0
        have g6 := g5.trans y2'
        have hv : fa = walkFirst l seed ∧ sa = (walkOf l es ws seed steps).2.1 ∧ ba = (walkOf l es ws seed steps).2.2 := by
          have h1 := congrArg Prod.fst v4
          have h2 := congrArg (fun r => r.2.1) v4
          have h3 := congrArg (fun r => r.2.2) v4
          exact ⟨h1, h2, h3⟩
        have hsl : sa.length ≤ 300 := by
          rw [hv.2.1]
          have := walkRun_length (ws := ws) (es := es) steps.toNat (numStep seed) (walkFirst l seed)
          have e : (walkOf l es ws seed steps).2.1 = (walkRun ws es steps.toNat (numStep seed) (walkFirst l seed)).1 := rfl
          rw [e]; omega
        have hca : Ints H6 ca sa := (v3.ints.grow x2).grow y2'
        have h21 := f21_is (M := MM lim) (a0 := fa) (b0 := walkFirst l seed) (a2 := ba) (b2 := (walkOf l es ws seed steps).2.2) hca y3' (by omega)
        rw [hv.1, hv.2.2] at h21
        have hse : decide (sa = (walkOf l es ws seed steps).2.1) = true := by rw [decide_eq_true_eq]; exact hv.2.1
        rw [hse] at h21
        simp only [decide_true, beq_self_eq_true, Bool.and_self] at h21
        obtain ⟨d1, d2, H7, w1, w2, w3, w4⟩ := f18_is (M := MM lim) (n := n) (hi.grow g6) (he.grow g6) (Nat.le_trans hM' g6.next) (by omega) (by omega)
        obtain ⟨d3, H8, p1, p2, p3⟩ := f29_is (M := MM lim) (x := walkFirst l seed) (b := (walkOf l es ws seed steps).2.2) (hca.grow w2) (Nat.le_trans hM' (g6.trans w2).next) (by omega)
        obtain ⟨H9, q1, q2⟩ := f28_is (M := MM lim) (n := n) (x := walkFirst l seed) (b := (walkOf l es ws seed steps).2.2) (w3.grow p2) (w4.grow p2) p3 (by omega) (by omega) (by omega)
        have hchk : (checkRes n l es (walkFirst l seed) sa).2 = 0 := by
          obtain ⟨_, _, _, t3'⟩ := walkFirst_in (l := l) hs.1 hs.2 hl0
          obtain ⟨n0, n1⟩ := numStep_in (x := seed) (by omega) hs.2
          have := walkGo_run (es := es) gw steps.toNat (numStep seed) (walkFirst l seed) n0 n1
          simp only [checkRes, hg, if_true, walkRes, show ¬ (300 < sa.length) by omega, if_false, t3']
          rw [hv.2.1]; exact this
        refine ⟨H9, ?_⟩
        rw [hv.1, hv.2.2]
        simp only [hz, decide_true, Bool.not_true, Bool.false_eq_true, if_false, if_true, y1', Option.bind_some, asA_agg, headC_cons, asI_int, asB_bool, List.drop_succ_cons, List.drop_zero, List.length_nil, h21, asC_c, w1, p1, q1, pairV, ext_tuple, List.getElem?_cons_zero, List.getElem?_cons_succ, hchk]
      · rw [if_neg hz] at v4
        simp only [Prod.mk.injEq] at v4
        obtain ⟨rfl, rfl, rfl⟩ := v4
        have h21 := f21_is (M := MM lim) (a0 := 0) (b0 := 0) (a2 := false) (b2 := false) (v3.ints.grow x2) (Ints.nil H5) (by simp)
        refine ⟨H5, ?_⟩
        simp only [hz, decide_false, Bool.not_false, if_true, decide_true, h21, Option.bind_some, asC_c, asB_bool]
        simp
    obtain ⟨H', hf⟩ := fin
    refine ⟨H', ?_⟩
    simp only [t1, Option.bind_some, asA_agg, headC_cons, asI_int, List.drop_succ_cons, List.drop_zero, List.length_nil, if_true, u1, asC_c, v1, ext_tuple, List.getElem?_cons_zero, List.getElem?_cons_succ, asB_bool, x1]
    cases hg : isGraph n l es with
    | true =>
      simp only [Bool.not_true, Bool.false_eq_true, if_false]
      rw [start]
      have : firstErr [(0 : Int), weightsE ws, if 1 ≤ seed ∧ seed ≤ 2147483646 then 0 else 3, if 0 ≤ steps ∧ steps ≤ 300 then 0 else 2, if 0 < (l.length : Int) then 0 else 1] = firstErr (walkErrs n l es ws seed steps) := by unfold walkErrs; rw [if_pos hg]
      rw [this]; exact hf
    | false =>
      simp only [Bool.not_false, if_true]
      rw [start]
      have : firstErr [(5 : Int), weightsE ws, if 1 ≤ seed ∧ seed ≤ 2147483646 then 0 else 3, if 0 ≤ steps ∧ steps ≤ 300 then 0 else 2, if 0 < (l.length : Int) then 0 else 1] = firstErr (walkErrs n l es ws seed steps) := by unfold walkErrs; rw [if_neg (show ¬ (isGraph n l es = true) by rw [hg]; simp)]
      rw [this]; exact hf
end law
end Go.Proofs.Ytnnjklkfcleleaa.R
