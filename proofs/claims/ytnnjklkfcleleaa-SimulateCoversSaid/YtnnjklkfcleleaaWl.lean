/-
  CHAPTER 20: paths; the distances and the least walk of the program.
-/
import Derived.Test.YtnnjklkfcleleaaWk
namespace Go.Proofs.Ytnnjklkfcleleaa.R
open Go Go.Proofs.Ytnnjklkfcleleaa.Vm
set_option linter.unusedVariables false
set_option linter.unusedSimpArgs false
variable {M : Mach}

theorem kept_trans {s : C} {H H' H'' : Heap} (h : Kept s H H') (k : Kept s H' H'') : Kept s H H'' :=
  ⟨Nat.le_trans h.next k.next, fun i hi hn => by rw [k.keep i (Nat.lt_of_lt_of_le hi h.next) hn, h.keep i hi hn]⟩

/-! ### a list turned round in its place -/
theorem f68_1_is {b m : Nat} {c : C} {l : List Int} (hM : M.lim ≤ b) (hl : l.length = m) (hm : m ≤ 1000000) : ∀ (d k : Nat) (cur : List Int) (H : Heap), m ≤ 2 * k + d → OInts H b c cur → cur.length = m → k ≤ m →
    (∀ t, t < m → cur.getD t 0 = if t < k ∨ m < k + t + 1 then l.getD (m - 1 - t) 0 else l.getD t 0) →
    ∃ H', f68_1 M c (k : Int) ((m : Int) - 1 - k) H = some (.tuple [], H') ∧ OInts H' b c l.reverse ∧ Kept c H H' := by
  intro d
  induction d with
  | zero =>
    intro k cur H hd ho hlen hkm hcur
    refine ⟨H, ?_, ?_, ⟨Nat.le_refl _, fun _ _ _ => rfl⟩⟩
    · rw [f68_1_eq]
      simp only [show ¬ ((k : Int) < (m : Int) - 1 - k) by omega, decide_false, Bool.false_eq_true, if_false]
    · have : cur = l.reverse := by
        refine List.ext_getElem? fun t => ?_
        by_cases ht : t < m
        · have h1 := getD_of (l := cur) (by rw [hlen]; exact ht) 0
          have h2 := getD_of (l := l) (i := m - 1 - t) (by omega) 0
          rw [h1, hcur t ht, List.getElem?_reverse (by omega), hl]
          rw [h2]
          congr 1
          split
          · rfl
          · have : m - 1 - t = t := by omega
            rw [this]
        · rw [List.getElem?_eq_none (by omega), List.getElem?_eq_none (by simp; omega)]
      rw [← this]; exact ho
  | succ d ih =>
    intro k cur H hd ho hlen hkm hcur
    by_cases hk : k < m - 1 - k
    rotate_left
    · -- as where nothing is left
      refine ⟨H, ?_, ?_, ⟨Nat.le_refl _, fun _ _ _ => rfl⟩⟩
      · rw [f68_1_eq]
        simp only [show ¬ ((k : Int) < (m : Int) - 1 - k) by omega, decide_false, Bool.false_eq_true, if_false]
      · have : cur = l.reverse := by
          refine List.ext_getElem? fun t => ?_
          by_cases ht : t < m
          · have h1 := getD_of (l := cur) (by rw [hlen]; exact ht) 0
            have h2 := getD_of (l := l) (i := m - 1 - t) (by omega) 0
            rw [h1, hcur t ht, List.getElem?_reverse (by omega), hl]
            rw [h2]
            congr 1
            split
            · rfl
            · have : m - 1 - t = t := by omega
              rw [this]
          · rw [List.getElem?_eq_none (by omega), List.getElem?_eq_none (by simp; omega)]
        rw [← this]; exact ho
    · have hj : ((m : Int) - 1 - k) = ((m - 1 - k : Nat) : Int) := by omega
      have hkl : k < cur.length := by omega
      have hjl : m - 1 - k < cur.length := by omega
      obtain ⟨q1, a1, a2⟩ := ho.ints.read (getD_of hjl 0)
      obtain ⟨q2, b1, b2⟩ := ho.ints.read (getD_of hkl 0)
      obtain ⟨q3, H1, c1, c2, c3, c4, c5⟩ := ho.set (lim := M.lim) hM hkl (cur.getD (m - 1 - k) 0)
      rw [b1] at c1; cases c1
      obtain ⟨q4, H2, d1, d2, d3, d4, d5⟩ := c3.set (lim := M.lim) hM (j := m - 1 - k) (by simp; omega) (cur.getD k 0)
      rw [a1] at d1; cases d1
      have hw1 : IntKind.wrap .i64 ((k : Int) + 1) = ((k + 1 : Nat) : Int) := wrap_succ (by omega)
      have hw2 : IntKind.wrap .i64 (((m - 1 - k : Nat) : Int) - 1) = (m : Int) - 1 - ((k + 1 : Nat) : Int) := by rw [wrap_in (by omega) (by omega)]; omega
      obtain ⟨H', e1, e2, e3⟩ := ih (k + 1) _ H2 (by omega) d3 (by simp [hlen]) (by omega) (fun t ht => by
        have hk0 := hcur k (by omega)
        have hj0 := hcur (m - 1 - k) (by omega)
        rw [if_neg (by omega)] at hk0 hj0
        by_cases e : t = m - 1 - k
        · subst e
          rw [List.getD_eq_getElem?_getD, List.getElem?_set_self (by simp; omega)]
          rw [if_pos (by omega)]
          simp only [Option.getD_some, hk0]
          congr 1; omega
        · rw [List.getD_eq_getElem?_getD, List.getElem?_set_ne (Ne.symm e)]
          by_cases e2 : t = k
          · subst e2
            rw [List.getElem?_set_self hkl, if_pos (by omega)]
            simp only [Option.getD_some, hj0]
          · rw [List.getElem?_set_ne (Ne.symm e2), ← List.getD_eq_getElem?_getD, hcur t ht]
            have : (t < k ∨ m < k + t + 1) ↔ (t < k + 1 ∨ m < k + 1 + t + 1) := by omega
            by_cases h : t < k ∨ m < k + t + 1
            · rw [if_pos h, if_pos (this.1 h)]
            · rw [if_neg h, if_neg (fun h' => h (this.2 h'))])
      refine ⟨H', ?_, e2, kept_trans (kept_trans c4 d4) e3⟩
      rw [f68_1_eq, hj]
      simp only [show ((k : Int) < ((m - 1 - k : Nat) : Int)) by omega, decide_true, if_true, a1, a2, b1, b2, c2, d2, Option.bind_some, asI_int, hw1, hw2]
      exact e1
theorem f68_is {b : Nat} {c : C} {l : List Int} {H : Heap} (hM : M.lim ≤ b) (ho : OInts H b c l) (hm : l.length ≤ 1000000) : ∃ H', f68 M c H = some (.tuple [], H') ∧ OInts H' b c l.reverse ∧ Kept c H H' := by
  obtain ⟨H', h1, h2, h3⟩ := f68_1_is (M := M) hM (rfl : l.length = l.length) hm l.length 0 l H (by omega) ho rfl (by omega) (fun t ht => by rw [if_neg (by omega)])
  refine ⟨H', ?_, h2, h3⟩
  have hw : IntKind.wrap .i64 ((l.length : Int) - 1) = (l.length : Int) - 1 - ((0 : Nat) : Int) := by rw [wrap_in (by omega) (by omega)]; omega
  rw [f68_eq]
  simp only [ho.ints.len, Option.bind_some, hw]
  exact h1

/-! ### paths -/
def back (es : List E) (d b : List Int) : Nat → Int → List Int → Option (Int × List Int)
  | 0, _, _ => none
  | F + 1, t, acc => if 0 < d.getD t.toNat 0 then back es d b F (frOf es (b.getD t.toNat 0)) (acc ++ [b.getD t.toNat 0]) else some (t, acc)
theorem Eds.source {H : Heap} {ce : C} {es : List E} (he : Eds H ce es) {i : Int} (hi : okI es i) : ∃ q, C.elem 3 ce i = some q ∧ H.ld q.1 q.2 = some (.int .i64 (frOf es i)) := by
  obtain ⟨h0, e, hx⟩ := hi
  obtain ⟨q, h1, h2, _⟩ := he.readI h0 hx
  exact ⟨q, h1, by simp only [frOf, hx]; exact h2⟩
theorem f48_1_is {H0 : Heap} (hM : M.lim ≤ H0.next) {ci ce cd cb : C} {n : Int} {N : Nat} {es : List E} {d b : List Int} (he : Eds H0 ce es) (hd : Ints H0 cd d) (hb : Ints H0 cb b) (hdl : d.length = N) (hbl : b.length = N)
    (hval : ∀ t : Int, 0 ≤ t → t.toNat < N → 0 < d.getD t.toNat 0 → okI es (b.getD t.toNat 0) ∧ 0 ≤ frOf es (b.getD t.toNat 0) ∧ (frOf es (b.getD t.toNat 0)).toNat < N) : ∀ (F : Nat) (t : Int) (acc : List Int) (out : C) (H : Heap) (r : Int × List Int), Grow H0 H → OInts H H0.next out acc → acc.length + F ≤ 100000 →
    0 ≤ t → t.toNat < N → back es d b F t acc = some r →
    ∃ c H', f48_1 M t n ci ce cd cb out H = some (.tuple [.c (.int .i64 r.1), .c c], H') ∧ Grow H0 H' ∧ OInts H' H0.next c r.2.reverse := by
  intro F
  induction F with
  | zero => intro t acc out H r _ _ _ _ _ h; simp [back] at h
  | succ F ih =>
    intro t acc out H r g ho hlen t0 t1 h
    obtain ⟨q, a1, a2⟩ := (hd.grow g).readI t0 (getD_of (by rw [hdl]; exact t1) 0)
    simp only [back] at h
    rw [f48_1_eq]
    simp only [a1, a2, Option.bind_some, asI_int]
    by_cases hp : 0 < d.getD t.toNat 0
    · rw [if_pos hp] at h
      obtain ⟨hok, f0, f1⟩ := hval t t0 t1 hp
      obtain ⟨q4, b1, b2⟩ := (hb.grow g).readI t0 (getD_of (by rw [hbl]; exact t1) 0)
      obtain ⟨k1, c', H1, k2, k3, k4, k5⟩ := ho.append1 (lim := M.lim) hM (b.getD t.toNat 0) (by omega)
      have g1 := Own.kept_grow ho g k4
      obtain ⟨q4', b1', b2'⟩ := (hb.grow g1).readI t0 (getD_of (by rw [hbl]; exact t1) 0)
      rw [b1] at b1'; cases b1'
      obtain ⟨q13, s1, s2⟩ := (he.grow g1).source hok
      obtain ⟨c, H', i1, i2, i3⟩ := ih _ _ c' H1 r g1 k3 (by simp; omega) f0 f1 h
      refine ⟨c, H', ?_, i2, i3⟩
      simp only [hp, decide_true, if_true, b1, b2, k1, k2, b2', s1, s2, Option.bind_some, asI_int]
      exact i1
    · rw [if_neg hp] at h; cases h
      obtain ⟨H', i1, i2, i3⟩ := f68_is (M := M) hM ho (by omega)
      refine ⟨out, H', ?_, Own.kept_grow ho g i3, i2⟩
      simp only [hp, decide_false, Bool.false_eq_true, if_false, i1, Option.bind_some]
theorem f48_is {H : Heap} (hM : M.lim ≤ H.next) {ci ce cd cb : C} {n t : Int} {N F : Nat} {es : List E} {d b : List Int} {r : Int × List Int} (he : Eds H ce es) (hd : Ints H cd d) (hb : Ints H cb b) (hdl : d.length = N) (hbl : b.length = N)
    (hval : ∀ t : Int, 0 ≤ t → t.toNat < N → 0 < d.getD t.toNat 0 → okI es (b.getD t.toNat 0) ∧ 0 ≤ frOf es (b.getD t.toNat 0) ∧ (frOf es (b.getD t.toNat 0)).toNat < N) (hF : F ≤ 100000) (t0 : 0 ≤ t) (t1 : t.toNat < N) (h : back es d b F t [] = some r) :
    ∃ c H', f48 M n ci ce cd cb t H = some (.tuple [.c (.int .i64 r.1), .c c], H') ∧ Grow H H' ∧ OInts H' H.next c r.2.reverse := by
  obtain ⟨c, H', h1, h2⟩ := f48_1_is (M := M) (n := n) (ci := ci) hM he hd hb hdl hbl hval F t [] .nilSlice H r (.refl _) (Own.nil (Nat.le_refl _) 1) (by simpa using hF) t0 t1 h
  exact ⟨c, H', by rw [f48_eq]; exact h1, h2⟩

/-! ### the two functions -/
theorem f17_is {H : Heap} (hM : M.lim ≤ H.next) {n : Int} {ci ce : C} {l d' b' : List Int} {es : List E} (hi : Ints H ci l) (he : Eds H ce es) (h1 : l.length ≤ 2000) (h2 : es.length ≤ 1000000) {F : Nat} (hF : F ≤ 800) (hb : isGraph n l es = true → bfs es F (far0 n.toNat l) = some (d', b')) :
    ∃ c H', f17 M n ci ce H = some (.tuple [.c c, .c (.int .i64 (if isGraph n l es = true then 0 else 5))], H') ∧ Grow H H' ∧ Ints H' c (if isGraph n l es = true then d' else []) := by
  obtain ⟨Ha, a1, a2⟩ := f46_is (M := M) (n := n) hi he (by omega) h2
  rw [f17_eq]
  simp only [a1, Option.bind_some, asC_c, asI_int]
  by_cases hg : isGraph n l es = true
  · simp only [hg, if_true, decide_true, Bool.not_true, Bool.false_eq_true, if_false]
    obtain ⟨hn, hes, hin, ge⟩ := isGraph_good hg
    obtain ⟨cd, cb, H', b1, b2, b3, b4⟩ := f47_is (M := M) (Nat.le_trans hM a2.next) (ci := ci) hn (he.grow a2) ge hes (hi.grow a2) h1 hin hF (hb hg)
    refine ⟨cd, H', ?_, a2.trans b2, b3.ints⟩
    simp only [b1, Option.bind_some, asA_agg, headC_cons, asI_int, List.drop_succ_cons, List.drop_zero, List.length_nil, if_true]
  · simp only [hg, if_false]
    exact ⟨.nilSlice, Ha, rfl, a2, Ints.nil _⟩
def leastErr (n : Int) (l : List Int) (es : List E) (t : Int) (d' : List Int) : Int := if isGraph n l es = true then (if 0 ≤ t ∧ t ≤ n - 1 then (if d'.getD t.toNat 0 = -1 then 25 else 0) else 3) else 5
theorem f19_is {H : Heap} (hM : M.lim ≤ H.next) {n t : Int} {ci ce : C} {l d' b' : List Int} {r : Int × List Int} {es : List E} (hi : Ints H ci l) (he : Eds H ce es) (h1 : l.length ≤ 2000) (h2 : es.length ≤ 1000000) {F F2 : Nat} (hF : F ≤ 800) (hF2 : F2 ≤ 100000) (hb : isGraph n l es = true → bfs es F (far0 n.toNat l) = some (d', b'))
    (hlen : isGraph n l es = true → d'.length = n.toNat ∧ b'.length = n.toNat)
    (hval : isGraph n l es = true → ∀ t : Int, 0 ≤ t → t.toNat < n.toNat → 0 < d'.getD t.toNat 0 → okI es (b'.getD t.toNat 0) ∧ 0 ≤ frOf es (b'.getD t.toNat 0) ∧ (frOf es (b'.getD t.toNat 0)).toNat < n.toNat)
    (hr : leastErr n l es t d' = 0 → back es d' b' F2 t [] = some r) :
    ∃ x c st H', f19 M n ci ce t H = some (.tuple [.agg [.int .i64 x, c, .bool false], .c (.int .i64 (leastErr n l es t d'))], H') ∧ Grow H H' ∧ Ints H' c st ∧ (x, st) = if leastErr n l es t d' = 0 then (r.1, r.2.reverse) else (0, []) := by
  obtain ⟨Ha, a1, a2⟩ := f46_is (M := M) (n := n) hi he (by omega) h2
  by_cases hg : isGraph n l es = true
  rotate_left
  · have hl := OInts.lit Ha (Nat.le_refl Ha.next) [if isGraph n l es = true then 0 else 5, if decide (0 ≤ t ∧ t ≤ IntKind.wrap .i64 (n - 1)) = true then 0 else 3] rfl (n := 2) rfl
    have herr := f41_is (M := M) hl.ints (by simp)
    simp only [List.map_cons, List.map_nil] at herr
    have hfe : firstErr [if isGraph n l es = true then 0 else 5, if decide (0 ≤ t ∧ t ≤ IntKind.wrap .i64 (n - 1)) = true then 0 else 3] = 5 := by rw [if_neg hg]; rfl
    rw [hfe] at herr
    have hle : leastErr n l es t d' = 5 := by unfold leastErr; rw [if_neg hg]
    rw [f19_eq, hle]
    simp only [a1, Option.bind_some, asC_c, asI_int, f44_is, f43_is, asB_bool, herr]
    exact ⟨0, .nilSlice, [], _, rfl, a2.to_alloc _, Ints.nil _, rfl⟩
  obtain ⟨hn, hes, hin, ge⟩ := isGraph_good hg
  have hw : IntKind.wrap .i64 (n - 1) = n - 1 := wrap_in (by omega) (by omega)
  have hl := OInts.lit Ha (Nat.le_refl Ha.next) [if isGraph n l es = true then 0 else 5, if decide (0 ≤ t ∧ t ≤ n - 1) = true then 0 else 3] rfl (n := 2) rfl
  have herr := f41_is (M := M) hl.ints (by simp)
  simp only [List.map_cons, List.map_nil] at herr
  rw [f19_eq]
  simp only [a1, Option.bind_some, asC_c, asI_int, f44_is, f43_is, asB_bool, hw, herr]
  simp only [hg, if_true]
  by_cases ht : 0 ≤ t ∧ t ≤ n - 1
  rotate_left
  · have hfe : firstErr [(0 : Int), if decide (0 ≤ t ∧ t ≤ n - 1) = true then 0 else 3] = 3 := by simp [ht, firstErr]
    have hle : leastErr n l es t d' = 3 := by unfold leastErr; rw [if_pos hg, if_neg ht]
    rw [hfe, hle]
    exact ⟨0, .nilSlice, [], _, rfl, a2.to_alloc _, Ints.nil _, rfl⟩
  have hfe : firstErr [(0 : Int), if decide (0 ≤ t ∧ t ≤ n - 1) = true then 0 else 3] = 0 := by simp [ht, firstErr]
  rw [hfe]
  have ga := a2.to_alloc (.cells 1 [.int .i64 (if isGraph n l es = true then 0 else 5), .int .i64 (if decide (0 ≤ t ∧ t ≤ n - 1) = true then 0 else 3)])
  simp only [hg, if_true] at ga
  obtain ⟨cd, cb, H', b1, b2, b3, b4⟩ := f47_is (M := M) (Nat.le_trans hM ga.next) (ci := ci) hn (he.grow ga) ge hes (hi.grow ga) h1 hin hF (hb hg)
  obtain ⟨l1, l2⟩ := hlen hg
  have tn : t.toNat < n.toNat := by omega
  obtain ⟨q, c1, c2⟩ := b3.ints.readI ht.1 (getD_of (by rw [l1]; exact tn) 0)
  simp only [decide_true, Bool.not_true, Bool.false_eq_true, if_false, b1, Option.bind_some, asA_agg, headC_cons, asI_int, List.drop_succ_cons, List.drop_zero, List.length_nil, if_true, c1, c2]
  by_cases hz : d'.getD t.toNat 0 = -1
  · have hle : leastErr n l es t d' = 25 := by unfold leastErr; rw [if_pos hg, if_pos ht, if_pos hz]
    rw [hle]
    simp only [hz, decide_true, if_true]
    exact ⟨0, .nilSlice, [], H', rfl, ga.trans b2, Ints.nil _, rfl⟩
  · have hle : leastErr n l es t d' = 0 := by unfold leastErr; rw [if_pos hg, if_pos ht, if_neg hz]
    obtain ⟨c, H2, d1, d2, d3⟩ := f48_is (M := M) (n := n) (ci := ci) (Nat.le_trans hM (ga.trans b2).next) (he.grow (ga.trans b2)) b3.ints b4.ints l1 l2 (hval hg) hF2 ht.1 tn (hr hle)
    rw [hle]
    refine ⟨r.1, c, r.2.reverse, H2, ?_, (ga.trans b2).trans d2, d3.ints, by rw [if_pos rfl]⟩
    simp only [hz, decide_false, Bool.false_eq_true, if_false, d1, Option.bind_some, ext_tuple, List.getElem?_cons_zero, List.getElem?_cons_succ, asC_c, asI_int]
end Go.Proofs.Ytnnjklkfcleleaa.R
