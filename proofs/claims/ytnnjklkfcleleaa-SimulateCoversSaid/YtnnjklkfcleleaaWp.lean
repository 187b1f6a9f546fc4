/-
  CHAPTER 20: the least walk of the reference is the search's; the law of distances.
-/
import Derived.Test.YtnnjklkfcleleaaWo
namespace Go.Proofs.Ytnnjklkfcleleaa.R
open Go Go.Proofs.Ytnnjklkfcleleaa.Vm
set_option linter.unusedVariables false
set_option linter.unusedSimpArgs false

theorem okI_sw {es : List E} {i : Int} : okI (es.map sw) i ↔ okI es i := by
  constructor
  · rintro ⟨h0, e, he⟩
    rw [List.getElem?_map] at he
    obtain ⟨e', he', _⟩ := Option.map_eq_some_iff.1 he
    exact ⟨h0, e', he'⟩
  · rintro ⟨h0, e, he⟩
    exact ⟨h0, sw e, by rw [List.getElem?_map, he]; rfl⟩
theorem frOf_sw {es : List E} {i : Int} : frOf (es.map sw) i = toOf es i := by
  simp only [frOf, toOf, List.getElem?_map]
  cases es[i.toNat]? <;> rfl
theorem toOf_sw {es : List E} {i : Int} : toOf (es.map sw) i = frOf es i := by
  simp only [frOf, toOf, List.getElem?_map]
  cases es[i.toNat]? <;> rfl
theorem goodE_sw {n : Int} {es : List E} (h : goodE n es) : goodE n (es.map sw) := fun e he => by
  obtain ⟨e', he', rfl⟩ := List.mem_map.1 he
  obtain ⟨h1, h2, h3⟩ := h e' he'
  exact ⟨h2, h1, h3⟩
theorem frOf_in {N : Nat} {es : List E} (ge : goodE (N : Int) es) {i : Int} (h : okI es i) : 0 ≤ frOf es i ∧ (frOf es i).toNat < N := by
  have := toOf_in (goodE_sw ge) (okI_sw.2 h)
  rwa [toOf_sw] at this

theorem nextE_least {left : List Int} {s : Int} : ∀ (es : List E) (k : Nat), (∃ (j : Nat) (e : E), es[j]? = some e ∧ e.f = s ∧ left.getD e.t.toNat 0 = left.getD s.toNat 0 - 1) →
    ∃ i, nextE left s k es = some i ∧ ∀ (j : Nat) (e : E), es[j]? = some e → e.f = s → left.getD e.t.toNat 0 = left.getD s.toNat 0 - 1 → i ≤ ((k + j : Nat) : Int)
  | [], k, ⟨j, e, h, _⟩ => by simp at h
  | e0 :: es, k, ⟨j, e, h, h1, h2⟩ => by
    simp only [nextE]
    by_cases hc : e0.f = s ∧ left.getD e0.t.toNat 0 = left.getD s.toNat 0 - 1
    · exact ⟨(k : Int), by rw [if_pos hc], fun j e _ _ _ => by omega⟩
    · rw [if_neg hc]
      cases j with
      | zero => simp only [List.getElem?_cons_zero, Option.some.injEq] at h; subst h; exact absurd ⟨h1, h2⟩ hc
      | succ j =>
        obtain ⟨i, i1, i2⟩ := nextE_least es (k + 1) ⟨j, e, by simpa using h, h1, h2⟩
        refine ⟨i, i1, fun j' e' h3 h4 h5 => ?_⟩
        cases j' with
        | zero => simp only [List.getElem?_cons_zero, Option.some.injEq] at h3; subst h3; exact absurd ⟨h4, h5⟩ hc
        | succ j' =>
          have := i2 j' e' (by simpa using h3) h4 h5
          have e1 : k + 1 + j' = k + (j' + 1) := by omega
          rwa [e1] at this
theorem find_least {p : Int → Bool} : ∀ {l : List Int}, l.Pairwise (· < ·) → (∃ x ∈ l, p x = true) → ∃ a, l.find? p = some a ∧ a ∈ l ∧ p a = true ∧ ∀ x ∈ l, p x = true → a ≤ x
  | [], _, ⟨x, h, _⟩ => by cases h
  | y :: l, hs, ⟨x, h, hp⟩ => by
    rw [List.pairwise_cons] at hs
    cases hy : p y with
    | true =>
      refine ⟨y, by simp [hy], by simp, hy, fun z hz _ => ?_⟩
      rcases List.mem_cons.1 hz with rfl | hz
      · omega
      · have := hs.1 z hz; omega
    | false =>
      have hx : x ∈ l := by
        rcases List.mem_cons.1 h with rfl | h
        · rw [hy] at hp; cases hp
        · exact h
      obtain ⟨a, h1, h2, h3, h4⟩ := find_least hs.2 ⟨x, hx, hp⟩
      refine ⟨a, by simp [hy, h1], by simp [h2], h3, fun z hz hpz => ?_⟩
      rcases List.mem_cons.1 hz with rfl | hz
      · rw [hy] at hpz; cases hpz
      · exact h4 z hz hpz

section
variable {N : Nat} {es : List E} {t : Int} {VL : List Int} {KL : Int → List Int} {L bL : List Int} (h : BI N (es.map sw) [t] (fun u _ => u ∈ VL) VL KL L bL)
include h
theorem left_zero {s : Int} (s0 : 0 ≤ s) (s1 : s.toNat < N) : L.getD s.toNat 0 = 0 ↔ s = t := by
  constructor
  · intro hz
    by_cases hm : s ∈ VL
    · rcases h.base s hm with ⟨h1, _⟩ | ⟨u, i, h1, _, _, _, _, h6, _⟩
      · simpa using h1
      · have := h.pos h1
        rw [h.val s hm, h6] at hz
        simp only [List.length_append, List.length_cons, List.length_nil] at hz
        omega
    · rw [h.out s s0 s1 hm] at hz; omega
  · intro e; subst e
    obtain ⟨h1, h2⟩ := h.ini s (by simp)
    rw [h.val s h1, h2]; simp
theorem left_edge (ge : goodE (N : Int) es) {i : Int} (hi : okI es i) (hp : 0 ≤ L.getD (toOf es i).toNat 0) : 0 ≤ L.getD (frOf es i).toNat 0 ∧ L.getD (frOf es i).toNat 0 ≤ L.getD (toOf es i).toNat 0 + 1 := by
  obtain ⟨t0, t1⟩ := toOf_in ge hi
  have hm : toOf es i ∈ VL := by
    by_cases hm : toOf es i ∈ VL
    · exact hm
    · rw [h.out _ t0 t1 hm] at hp; omega
  obtain ⟨c1, c2⟩ := h.clo (toOf es i) i hm hm (okI_sw.2 hi) frOf_sw
  rw [toOf_sw] at c1 c2
  have := sle_len c2
  have := h.pos c1
  rw [h.val _ hm, h.val _ c1]
  simp only [List.length_append, List.length_cons, List.length_nil] at *
  omega
theorem left_next {s : Int} (s0 : 0 ≤ s) (s1 : s.toNat < N) (hp : 0 < L.getD s.toNat 0) : ∃ i, okI es i ∧ frOf es i = s ∧ L.getD (toOf es i).toNat 0 = L.getD s.toNat 0 - 1 := by
  have hm : s ∈ VL := by
    by_cases hm : s ∈ VL
    · exact hm
    · rw [h.out s s0 s1 hm] at hp; omega
  rcases h.base s hm with ⟨_, h2⟩ | ⟨u, i, h1, _, h3, h4, h5, h6, _⟩
  · rw [h.val s hm, h2] at hp; simp at hp
  · rw [toOf_sw] at h5
    rw [frOf_sw] at h4
    refine ⟨i, okI_sw.1 h3, h5, ?_⟩
    rw [h4, h.val u h1, h.val s hm, h6]
    simp only [List.length_append, List.length_cons, List.length_nil]
    omega
theorem run_left (ge : goodE (N : Int) es) : ∀ (r : List Int) (s : Int), 0 ≤ s → s.toNat < N → Run es s r t → 0 ≤ L.getD s.toNat 0 ∧ L.getD s.toNat 0 ≤ r.length
  | [], s, s0, s1, hr => by
    have hr : s = t := hr
    rw [(left_zero h s0 s1).2 hr]; simp
  | i :: r, s, s0, s1, hr => by
    obtain ⟨h1, h2, h3⟩ := hr
    obtain ⟨t0, t1⟩ := toOf_in ge h1
    obtain ⟨g1, g2⟩ := run_left ge r _ t0 t1 h3
    obtain ⟨e1, e2⟩ := left_edge h ge h1 g1
    rw [h2] at e1 e2
    simp only [List.length_cons]
    omega
theorem fwd_least (ge : goodE (N : Int) es) : ∀ (k : Nat) (s : Int) (acc : List Int) (F : Nat), 0 ≤ s → s.toNat < N → L.getD s.toNat 0 = k → k < F →
    ∃ R, fwd es L t F s acc = some (acc ++ R) ∧ Run es s R t ∧ R.length = k ∧ ∀ Q, Run es s Q t → Q.length = k → Q = R ∨ lx R Q
  | 0, s, acc, F, s0, s1, hk, hF => by
    have hs : s = t := (left_zero h s0 s1).1 (by simpa using hk)
    obtain ⟨F', rfl⟩ : ∃ F', F = F' + 1 := ⟨F - 1, by omega⟩
    refine ⟨[], by simp [fwd, hs], hs, rfl, fun Q _ hq => .inl (List.eq_nil_of_length_eq_zero hq)⟩
  | k + 1, s, acc, F, s0, s1, hk, hF => by
    obtain ⟨F', rfl⟩ : ∃ F', F = F' + 1 := ⟨F - 1, by omega⟩
    have hs : ¬ s = t := fun e => by rw [(left_zero h s0 s1).2 e] at hk; omega
    obtain ⟨i0, g1, g2, g3⟩ := left_next h s0 s1 (by omega)
    have idx : ∀ {i : Int}, okI es i → ∃ (j : Nat) (e : E), i = ((j : Nat) : Int) ∧ es[j]? = some e ∧ e.f = frOf es i ∧ e.t = toOf es i := fun {i} hi => by
      obtain ⟨h0, e, he⟩ := hi
      exact ⟨i.toNat, e, by omega, he, by simp only [frOf, he], by simp only [toOf, he]⟩
    obtain ⟨j0, e0, hj0, he0, hf0, ht0⟩ := idx g1
    obtain ⟨i, hi1, hi2⟩ := nextE_least (left := L) (s := s) es 0 ⟨j0, e0, he0, by rw [hf0, g2], by rw [ht0, g3]⟩
    obtain ⟨j, e, h1, h2, h3, h4⟩ := nextE_some hi1
    rw [Nat.zero_add] at h1
    have hok : okI es i := ⟨by omega, e, by rw [h1]; simpa using h2⟩
    have hfr : frOf es i = s := by rw [h1]; simp [frOf, h2, h3]
    have hto : toOf es i = e.t := by rw [h1]; simp [toOf, h2]
    obtain ⟨t0, t1⟩ := toOf_in ge hok
    have hLk : L.getD (toOf es i).toNat 0 = k := by rw [hto, h4, hk]; omega
    obtain ⟨R, r1, r2, r3, r4⟩ := fwd_least ge k (toOf es i) (acc ++ [i]) F' t0 t1 hLk (by omega)
    refine ⟨i :: R, ?_, ⟨hok, hfr, r2⟩, by simp [r3], fun Q hQ hq => ?_⟩
    · simp only [fwd, hs, if_false, hi1, Option.bind_some, r1]
      simp
    · cases Q with
      | nil => simp at hq
      | cons j' Q =>
        obtain ⟨q1, q2, q3⟩ := hQ
        have hql : Q.length = k := by simpa using hq
        obtain ⟨u0, u1⟩ := toOf_in ge q1
        obtain ⟨w1, w2⟩ := run_left h ge Q _ u0 u1 q3
        obtain ⟨w3, w4⟩ := left_edge h ge q1 w1
        rw [q2] at w3 w4
        have hLj : L.getD (toOf es j').toNat 0 = L.getD s.toNat 0 - 1 := by omega
        obtain ⟨jj, ee, k1, k2, k3, k4⟩ := idx q1
        have hle := hi2 jj ee k2 (by rw [k3, q2]) (by rw [k4, hLj])
        rw [Nat.zero_add, ← k1] at hle
        by_cases hij : i = j'
        · subst hij
          rcases r4 Q q3 hql with h5 | h5
          · exact .inl (by rw [h5])
          · exact .inr (.inr ⟨rfl, h5⟩)
        · exact .inr (.inl (by omega))
end

theorem dist0_get {N : Nat} {l : List Int} (t : Int) (t0 : 0 ≤ t) (t1 : t.toNat < N) : (dist0 N l).getD t.toNat 0 = if t ∈ l then 0 else -1 := by
  have h := getD_of (l := dist0 N l) (i := t.toNat) (by simp [dist0]; exact t1) 0
  simp only [dist0, List.getElem?_map, List.getElem?_range t1, Option.map_some, Option.some.injEq, Int.toNat_of_nonneg t0] at h
  exact h.symm
theorem left0_get {N : Nat} {a : Int} (a0 : 0 ≤ a) (a1 : a.toNat < N) (t : Int) (t0 : 0 ≤ t) (t1 : t.toNat < N) : ((List.replicate N (-1 : Int)).set a.toNat 0).getD t.toNat 0 = if t ∈ [a] then 0 else -1 := by
  rw [getD_set (by simpa using a1)]
  by_cases e : t = a
  · subst e; simp
  · rw [if_neg (by omega), if_neg (by simpa using e), List.getD_eq_getElem?_getD, List.getElem?_replicate, if_pos t1]; rfl

/-- what the reference finds is what the search finds -/
theorem least_same {N : Nat} {es : List E} {l V : List Int} {K : Int → List Int} {d b : List Int} (h : BI N es l (fun u _ => u ∈ V) V K d b) (ge : goodE (N : Int) es) (hs : l.Pairwise (· < ·)) (hin : ∀ s ∈ l, 0 ≤ s ∧ s.toNat < N) {t : Int} (t0 : 0 ≤ t) (t1 : t.toNat < N) (ht : t ∈ V) :
    ∃ x r, K t = x :: r ∧ firstIn (leftOf N es t) (bestOf N l es t) l = x ∧ fwd es (leftOf N es t) t (N + 1) x [] = some r := by
  obtain ⟨L, bL, KL, VL, _, hL⟩ := bfs_spec (N := N) (es := es.map sw) (l := [t]) (goodE_sw ge) (fun s hs => by simp at hs; subst hs; exact ⟨t0, t1⟩) (by simp)
  have hleft : leftOf N es t = L := hL.rounds (goodE_sw ge) (by simp) (fun u u0 u1 => left0_get t0 t1 u u0 u1)
  have hbest : bestOf N l es t = d.getD t.toNat 0 := by
    unfold bestOf
    rw [h.rounds ge (by simp [dist0]) (fun u u0 u1 => dist0_get u u0 u1)]
  obtain ⟨x0, r0, p1, p2, p3⟩ := h.path (K t).length t ht (Nat.le_refl _)
  have hd : d.getD t.toNat 0 = r0.length := by rw [h.val t ht, p2]; simp
  obtain ⟨y0, y1⟩ := hin x0 p1
  obtain ⟨l1, l2⟩ := run_left hL ge r0 x0 y0 y1 p3
  have hklt := h.lt t ht
  rw [p2] at hklt
  simp only [List.length_cons] at hklt
  have hmin : ∀ x ∈ l, 0 ≤ L.getD x.toNat 0 → (r0.length : Int) ≤ L.getD x.toNat 0 := fun x hx hp => by
    obtain ⟨z0, z1⟩ := hin x hx
    obtain ⟨k, hk⟩ := Int.eq_ofNat_of_zero_le hp
    obtain ⟨R, _, g2, g3, _⟩ := fwd_least hL ge k x [] (k + 1) z0 z1 hk (by omega)
    have := sle_len (h.least0 hx g2).2
    rw [p2] at this
    simp only [List.length_cons] at this
    omega
  have hx0 : L.getD x0.toNat 0 = r0.length := by have := hmin x0 p1 l1; omega
  rw [hleft, hbest, hd]
  obtain ⟨a, f1, f2, f3, f4⟩ := find_least (p := fun x => decide (L.getD x.toNat 0 = (r0.length : Int))) hs ⟨x0, p1, by simpa using hx0⟩
  have fa : firstIn L (r0.length : Int) l = a := by unfold firstIn; rw [f1]; rfl
  obtain ⟨a0, a1⟩ := hin a f2
  have f3' : L.getD a.toNat 0 = (r0.length : Int) := by simpa using f3
  obtain ⟨R, g1, g2, g3, g4⟩ := fwd_least hL ge r0.length a [] (N + 1) a0 a1 f3' (by omega)
  have hle := (h.least0 f2 g2).2
  rw [p2] at hle
  have hax : a ≤ x0 := f4 x0 p1 (by simpa using hx0)
  have heq : x0 :: r0 = a :: R := by
    rcases hle with h1 | h1 | ⟨_, h1⟩
    · exact h1
    · simp only [List.length_cons] at h1; omega
    · rcases h1 with h1 | ⟨rfl, h1⟩
      · omega
      · rcases g4 r0 p3 rfl with h2 | h2
        · rw [h2]
        · exact absurd (lx_trans h1 h2) (lx_irrefl _)
  obtain ⟨rfl, rfl⟩ := List.cons.inj heq
  exact ⟨x0, r0, p2, fa, by simpa using g1⟩

theorem initOK_sorted {n : Int} : ∀ {l : List Int} {p : Option Int}, initOK n p l = true → l.Pairwise (· < ·) ∧ ∀ q, p = some q → ∀ x ∈ l, q < x
  | [], _, _ => ⟨.nil, fun _ _ _ h => (by cases h)⟩
  | y :: l, p, h => by
    simp only [initOK, Bool.and_eq_true] at h
    obtain ⟨⟨_, h2⟩, h3⟩ := h
    obtain ⟨h4, h5⟩ := initOK_sorted h3
    refine ⟨List.pairwise_cons.2 ⟨fun x hx => h5 y rfl x hx, h4⟩, fun q hq x hx => ?_⟩
    subst hq
    have h6 : q < y := by simpa using h2
    rcases List.mem_cons.1 hx with rfl | hx
    · exact h6
    · have := h5 y rfl x hx; omega

/-! ### the law -/
theorem f4_is {lim : Nat} {n t : Int} {ci ce : C} {l : List Int} {es : List E} {H : Heap} (hM : lim ≤ H.next) (hi : Ints H ci l) (he : Eds H ce es) : ∃ H', f4 (MM lim) n ci ce t H = some (.c (.bool true), H') := by
  have hM' : (MM lim).lim ≤ H.next := hM
  rw [f4_eq, f10_out]
  simp only [Option.bind_some, asC_c, asB_bool, Bool.not_true, Bool.false_eq_true, if_false, f16_is hi he]
  cases hfew : (decide (n ≤ 20) && decide (l.length ≤ 22) && decide (es.length ≤ 60)) with
  | false => exact ⟨H, rfl⟩
  | true =>
    simp only [Bool.and_eq_true, decide_eq_true_eq] at hfew
    obtain ⟨c1, c2, H2, t1, t2, t3, t4⟩ := f18_is (M := MM lim) (n := n) hi he hM' (by omega) (by omega)
    cases hg : isGraph n l es with
    | false =>
      have hgn : ¬ (isGraph n l es = true) := by rw [hg]; simp
      obtain ⟨c3, H3, a1, a2, a3⟩ := f17_is (M := MM lim) (n := n) (d' := []) (b' := []) (Nat.le_trans hM' t2.next) t3 t4 (by omega) (by omega) (F := 0) (by omega) (fun h => absurd h hgn)
      have g3 := t2.trans a2
      obtain ⟨c4, c5, H4, b1, b2, b3, b4⟩ := f18_is (M := MM lim) (n := n) (hi.grow g3) (he.grow g3) (Nat.le_trans hM' g3.next) (by omega) (by omega)
      have hle : leastErr n l es t [] = 5 := by unfold leastErr; rw [if_neg hgn]
      obtain ⟨x, c6, st, H5, d1, d2, d3, d4⟩ := f19_is (M := MM lim) (n := n) (t := t) (d' := []) (b' := []) (r := (0, [])) (Nat.le_trans hM' (g3.trans b2).next) b3 b4 (by omega) (by omega) (F := 0) (F2 := 0) (by omega) (by omega) (fun h => absurd h hgn) (fun h => absurd h hgn) (fun h => absurd h hgn) (fun h => by rw [hle] at h; omega)
      rw [hle] at d1 d4
      simp only [Prod.mk.injEq] at d4
      rw [if_neg (by omega)] at d4
      obtain ⟨rfl, rfl⟩ := Prod.mk.inj d4
      have g5 := (g3.trans b2).trans d2
      obtain ⟨H6, e1, e2⟩ := f20_is (M := MM lim) (n := n) (hi.grow g5) (he.grow g5) (by omega) (by omega)
      rw [hg] at e1
      simp only [hg, Bool.false_eq_true, if_false] at a1 a3
      have h21 := f21_is (M := MM lim) (a0 := 0) (b0 := 0) (a2 := false) (b2 := false) (d3.grow e2) (Ints.nil H6) (by simp)
      refine ⟨H6, ?_⟩
      simp only [Bool.not_true, Bool.false_eq_true, if_false, t1, Option.bind_some, asA_agg, headC_cons, asI_int, List.drop_succ_cons, List.drop_zero, List.length_nil, if_true, a1, ext_tuple, List.getElem?_cons_zero, List.getElem?_cons_succ, asC_c, b1, d1, asB_bool, e1, Bool.not_false, decide_true, a3.len, h21]
      simp
    | true =>
      obtain ⟨hn, hes, hin, ge⟩ := isGraph_good hg
      have hin' : ∀ s ∈ l, 0 ≤ s ∧ s.toNat < n.toNat := fun s hs => by have := hin s hs; omega
      have hnn : ((n.toNat : Nat) : Int) = n := by omega
      have ge' : goodE ((n.toNat : Nat) : Int) es := by rw [hnn]; exact ge
      have hsort : l.Pairwise (· < ·) := by
        simp only [isGraph, Bool.and_eq_true] at hg
        exact (initOK_sorted hg.1.2).1
      obtain ⟨d, b, K, V, hbfs, B⟩ := bfs_spec (N := n.toNat) ge' hin' hsort
      have hrd : rnds es n.toNat 0 (dist0 n.toNat l) = d := B.rounds ge' (by simp [dist0]) (fun u u0 u1 => dist0_get u u0 u1)
      obtain ⟨c3, H3, a1, a2, a3⟩ := f17_is (M := MM lim) (n := n) (d' := d) (b' := b) (Nat.le_trans hM' t2.next) t3 t4 (by omega) (by omega) (F := n.toNat + 1) (by omega) (fun _ => hbfs)
      have g3 := t2.trans a2
      obtain ⟨c4, c5, H4, b1, b2, b3, b4⟩ := f18_is (M := MM lim) (n := n) (hi.grow g3) (he.grow g3) (Nat.le_trans hM' g3.next) (by omega) (by omega)
      -- the least walk
      have hr : ∃ r : Int × List Int, leastErr n l es t d = 0 → back es d b (n.toNat + 1) t [] = some r ∧ K t = r.1 :: r.2.reverse ∧ t ∈ V := by
        by_cases hz : leastErr n l es t d = 0
        · unfold leastErr at hz
          rw [if_pos hg] at hz
          by_cases ht : 0 ≤ t ∧ t ≤ n - 1
          · rw [if_pos ht] at hz
            have hdm : ¬ d.getD t.toNat 0 = -1 := fun e => by rw [if_pos e] at hz; omega
            have htV : t ∈ V := by
              by_cases hm : t ∈ V
              · exact hm
              · exact absurd (B.out t ht.1 (by omega) hm) hdm
            obtain ⟨x, r, k1, k2⟩ := B.back (n.toNat + 1) t [] htV (Nat.le_succ_of_le (B.lt t htV))
            exact ⟨(x, r.reverse), fun _ => ⟨by simpa using k2, by simpa using k1, htV⟩⟩
          · rw [if_neg ht] at hz; omega
        · exact ⟨(0, []), fun h => absurd h hz⟩
      obtain ⟨r, hr⟩ := hr
      obtain ⟨x, c6, st, H5, d1, d2, d3, d4⟩ := f19_is (M := MM lim) (n := n) (t := t) (d' := d) (b' := b) (r := r) (Nat.le_trans hM' (g3.trans b2).next) b3 b4 (by omega) (by omega) (F := n.toNat + 1) (F2 := n.toNat + 1) (by omega) (by omega) (fun _ => hbfs) (fun _ => ⟨B.dl, B.bl⟩) (fun _ => B.hval) (fun h => (hr h).1)
      have g5 := (g3.trans b2).trans d2
      obtain ⟨H6, e1, e2⟩ := f20_is (M := MM lim) (n := n) (hi.grow g5) (he.grow g5) (by omega) (by omega)
      have g6 := g5.trans e2
      rw [hg] at e1
      simp only [hg, if_true] at a1 a3
      obtain ⟨c7, H7, k1, k2, k3⟩ := f22_is (M := MM lim) (n := n) (Nat.le_trans hM' g6.next) hn (hi.grow g6) (by omega) (he.grow g6) ge (by omega)
      rw [hrd] at k3
      have g7 := g6.trans k2
      have hw : IntKind.wrap .i64 (n - 1) = n - 1 := wrap_in (by omega) (by omega)
      have f14 := f14_is (M := MM lim) (a3.grow ((((b2.trans d2).trans e2)).trans k2)) k3.ints (by rw [B.dl]; omega)
      have hd3 := (d3.grow e2).grow k2
      simp only [Bool.not_true, Bool.false_eq_true, if_false, t1, Option.bind_some, asA_agg, headC_cons, asI_int, List.drop_succ_cons, List.drop_zero, List.length_nil, if_true, a1, ext_tuple, List.getElem?_cons_zero, List.getElem?_cons_succ, asC_c, b1, d1, asB_bool, e1, decide_true, k1, f14, f13_is, hw]
      by_cases ht : 0 ≤ t ∧ t ≤ n - 1
      rotate_left
      · have hle : leastErr n l es t d = 3 := by unfold leastErr; rw [if_pos hg, if_neg ht]
        rw [hle] at d4
        rw [if_neg (by omega)] at d4
        obtain ⟨rfl, rfl⟩ := Prod.mk.inj d4
        have h21 := f21_is (M := MM lim) (a0 := 0) (b0 := 0) (a2 := false) (b2 := false) hd3 (Ints.nil H7) (by simp)
        refine ⟨H7, ?_⟩
        simp only [ht, decide_false, Bool.not_false, if_true, hle, decide_true, h21, Option.bind_some, asC_c, asB_bool]
        simp
      obtain ⟨q, m1, m2⟩ := k3.ints.readI ht.1 (getD_of (by rw [B.dl]; omega) 0)
      simp only [ht, and_self, decide_true, Bool.not_true, Bool.false_eq_true, if_false, m1, m2, Option.bind_some, asI_int]
      by_cases hz : d.getD t.toNat 0 = -1
      · have hle : leastErr n l es t d = 25 := by unfold leastErr; rw [if_pos hg, if_pos ht, if_pos hz]
        rw [hle] at d4
        rw [if_neg (by omega)] at d4
        obtain ⟨rfl, rfl⟩ := Prod.mk.inj d4
        have h21 := f21_is (M := MM lim) (a0 := 0) (b0 := 0) (a2 := false) (b2 := false) hd3 (Ints.nil H7) (by simp)
        refine ⟨H7, ?_⟩
        simp only [hz, decide_true, if_true, hle, h21, Option.bind_some, asC_c, asB_bool]
        simp
      · have hle : leastErr n l es t d = 0 := by unfold leastErr; rw [if_pos hg, if_pos ht, if_neg hz]
        obtain ⟨_, r2, r3⟩ := hr hle
        rw [hle, if_pos rfl] at d4
        obtain ⟨rfl, rfl⟩ := Prod.mk.inj d4
        obtain ⟨x', r', s1, s2, s3⟩ := least_same B ge' hsort hin' ht.1 (by omega) r3
        rw [r2] at s1
        obtain ⟨rfl, rfl⟩ := List.cons.inj s1
        obtain ⟨c8, H8, u1, u2, u3⟩ := f23_is (M := MM lim) (n := n) (t := t) (Nat.le_trans hM' g7.next) hn (hi.grow g7) (by omega) hin (he.grow g7) ge (by omega) ht.1 (by omega) (F := n.toNat + 1) (by omega) (by rw [s2]; exact s3)
        rw [s2] at u1
        have hlr : r.2.reverse.length ≤ n.toNat := by
          have := B.lt t r3
          rw [r2] at this
          simp only [List.length_cons] at this
          omega
        have h21 := f21_is (M := MM lim) (a0 := r.1) (b0 := r.1) (a2 := false) (b2 := false) (hd3.grow u2) u3 (by omega)
        obtain ⟨q', m1', m2'⟩ := (k3.ints.grow u2).readI ht.1 (getD_of (by rw [B.dl]; omega) 0)
        rw [m1] at m1'; cases m1'
        have hdl : ((r.2.reverse.length : Nat) : Int) = d.getD t.toNat 0 := by rw [B.val t r3, r2]; simp
        refine ⟨H8, ?_⟩
        simp only [hz, decide_false, Bool.false_eq_true, if_false, hle, decide_true, if_true, u1, Option.bind_some, asA_agg, headC_cons, asI_int, List.drop_succ_cons, List.drop_zero, List.length_nil, asB_bool, h21, asC_c, beq_self_eq_true, Bool.and_self, (hd3.grow u2).len, m1, m2', hdl]
end Go.Proofs.Ytnnjklkfcleleaa.R
