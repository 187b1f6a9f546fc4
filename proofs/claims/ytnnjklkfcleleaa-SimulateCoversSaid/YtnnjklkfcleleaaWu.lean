/-
  CHAPTER 20: TourOf; steps counted.
-/
import Derived.Test.YtnnjklkfcleleaaWt
namespace Go.Proofs.Ytnnjklkfcleleaa.R
open Go Go.Proofs.Ytnnjklkfcleleaa.Vm
set_option linter.unusedVariables false
set_option linter.unusedSimpArgs false
variable {M : Mach}

/-! ### the steps that are left -/
theorem unc_mem {es : List E} {far T : List Int} : ∀ {r : List E} {k : Nat} {i : Int}, i ∈ unc es far T k r ↔ ∃ (j : Nat) (e : E), i = ((k + j : Nat) : Int) ∧ r[j]? = some e ∧ far.getD e.f.toNat 0 ≠ -1 ∧ T.getD (k + j) 0 = 0
  | [], k, i => by simp [unc]
  | e :: r, k, i => by
    have hr := unc_mem (es := es) (far := far) (T := T) (r := r) (k := k + 1) (i := i)
    have rest : i ∈ unc es far T (k + 1) r ↔ ∃ (j : Nat) (e' : E), i = ((k + (j + 1) : Nat) : Int) ∧ r[j]? = some e' ∧ far.getD e'.f.toNat 0 ≠ -1 ∧ T.getD (k + (j + 1)) 0 = 0 := by
      rw [hr]
      have e1 : ∀ j, k + 1 + j = k + (j + 1) := fun j => by omega
      simp only [e1]
    have key : (∃ (j : Nat) (e' : E), i = ((k + j : Nat) : Int) ∧ (e :: r)[j]? = some e' ∧ far.getD e'.f.toNat 0 ≠ -1 ∧ T.getD (k + j) 0 = 0) ↔ (i = (k : Int) ∧ far.getD e.f.toNat 0 ≠ -1 ∧ T.getD k 0 = 0) ∨ ∃ (j : Nat) (e' : E), i = ((k + (j + 1) : Nat) : Int) ∧ r[j]? = some e' ∧ far.getD e'.f.toNat 0 ≠ -1 ∧ T.getD (k + (j + 1)) 0 = 0 := by
      constructor
      · rintro ⟨j, e', h1, h2, h3, h4⟩
        cases j with
        | zero => simp only [List.getElem?_cons_zero, Option.some.injEq] at h2; subst h2; exact .inl ⟨h1, h3, h4⟩
        | succ j => exact .inr ⟨j, e', h1, by simpa using h2, h3, h4⟩
      · rintro (⟨h1, h2, h3⟩ | ⟨j, e', h1, h2, h3, h4⟩)
        · exact ⟨0, e, h1, rfl, h2, h3⟩
        · exact ⟨j + 1, e', h1, by simpa using h2, h3, h4⟩
    rw [key, ← rest]
    simp only [unc]
    split
    · rename_i h
      rw [List.mem_cons]
      exact ⟨fun h1 => h1.imp (fun h2 => ⟨h2, h⟩) id, fun h1 => h1.imp (fun h2 => h2.1) id⟩
    · rename_i h
      exact ⟨.inr, fun h1 => h1.elim (fun h2 => absurd h2.2 h) id⟩
theorem unc_sorted {es : List E} {far T : List Int} : ∀ (r : List E) (k : Nat), (unc es far T k r).Pairwise (· < ·) ∧ ∀ i ∈ unc es far T k r, (k : Int) ≤ i
  | [], k => ⟨.nil, fun _ h => by simp [unc] at h⟩
  | e :: r, k => by
    obtain ⟨h1, h2⟩ := unc_sorted (es := es) (far := far) (T := T) r (k + 1)
    simp only [unc]
    split
    · refine ⟨List.pairwise_cons.2 ⟨fun i hi => by have := h2 i hi; omega, h1⟩, fun i hi => ?_⟩
      rcases List.mem_cons.1 hi with rfl | hi
      · omega
      · have := h2 i hi; omega
    · exact ⟨h1, fun i hi => by have := h2 i hi; omega⟩
theorem unc_len {es : List E} {far T : List Int} : ∀ (r : List E) (k : Nat), (unc es far T k r).length ≤ r.length
  | [], k => by simp [unc]
  | e :: r, k => by
    have := unc_len (es := es) (far := far) (T := T) r (k + 1)
    simp only [unc]; split <;> simp <;> omega
theorem unc_ok {es : List E} {far T : List Int} {i : Int} : i ∈ unc es far T 0 es ↔ okI es i ∧ far.getD (frOf es i).toNat 0 ≠ -1 ∧ T.getD i.toNat 0 = 0 := by
  rw [unc_mem]
  constructor
  · rintro ⟨j, e, rfl, h2, h3, h4⟩
    simp only [Nat.zero_add, Int.toNat_natCast] at *
    exact ⟨⟨by omega, e, by simpa using h2⟩, by simp only [frOf, Int.toNat_natCast, h2]; exact h3, h4⟩
  · rintro ⟨⟨h0, e, h1⟩, h2, h3⟩
    refine ⟨i.toNat, e, by omega, h1, ?_, by simpa using h3⟩
    simp only [frOf, h1] at h2; exact h2

/-! ### a tour -/
section tour
variable {n most : Int} {ci ce : C} {es : List E} {l : List Int}
def distOf (n : Int) (l : List Int) (es : List E) : List Int := rnds es n.toNat 0 (dist0 n.toNat l)
def allOf (n : Int) (l : List Int) (es : List E) : List Int := unc es (distOf n l es) [] 0 es
theorem f32_is {H : Heap} (hM : M.lim ≤ H.next) (hi : Ints H ci l) (he : Eds H ce es) (h1 : l.length ≤ 2000) (h2 : es.length ≤ 60) :
    ∃ c e H', f32 M n ci ce most H = some (.tuple [.c c, .c (.int .i64 e)], H') ∧ Grow H H' ∧
      (if isGraph n l es = true then (if 1 ≤ most ∧ most ≤ 300 then (if (allOf n l es).any (tooFar most (distOf n l es) es) = true then e = 25 ∧ c = .nilSlice else e = 0 ∧ ∃ b ps, Wks H' c ps ∧ Own H' b c 3 (ps.map rowW) ∧ Tour l es most (allOf n l es) (ps.map Prod.fst)) else e = 3 ∧ c = .nilSlice) else e = 5 ∧ c = .nilSlice) := by
  obtain ⟨Ha, a1, a2⟩ := f46_is (M := M) (n := n) hi he (by omega) (by omega)
  have hl := OInts.lit Ha (Nat.le_refl Ha.next) [if isGraph n l es = true then 0 else 5, if decide (1 ≤ most ∧ most ≤ 300) = true then 0 else 3] rfl (n := 2) rfl
  have herr := f41_is (M := M) hl.ints (by simp)
  simp only [List.map_cons, List.map_nil] at herr
  rw [f32_eq]
  simp only [a1, Option.bind_some, asC_c, asI_int, f44_is, f43_is, asB_bool, herr]
  by_cases hg : isGraph n l es = true
  rotate_left
  · have hfe : firstErr [if isGraph n l es = true then 0 else 5, if decide (1 ≤ most ∧ most ≤ 300) = true then 0 else 3] = 5 := by rw [if_neg hg]; rfl
    rw [hfe]
    refine ⟨.nilSlice, 5, _, rfl, a2.to_alloc _, ?_⟩
    rw [if_neg hg]; exact ⟨rfl, rfl⟩
  obtain ⟨hn, hes, hin, ge⟩ := isGraph_good hg
  by_cases hm : 1 ≤ most ∧ most ≤ 300
  rotate_left
  · have hfe : firstErr [if isGraph n l es = true then 0 else 5, if decide (1 ≤ most ∧ most ≤ 300) = true then 0 else 3] = 3 := by simp [hg, hm, firstErr]
    rw [hfe]
    refine ⟨.nilSlice, 3, _, rfl, a2.to_alloc _, ?_⟩
    rw [if_pos hg, if_neg hm]; exact ⟨rfl, rfl⟩
  have hfe : firstErr [if isGraph n l es = true then 0 else 5, if decide (1 ≤ most ∧ most ≤ 300) = true then 0 else 3] = 0 := by simp [hg, hm, firstErr]
  rw [hfe]
  simp only [hg, hm, and_self, decide_true, if_true, Bool.not_true, Bool.false_eq_true, if_false]
  have ga := a2.to_alloc (.cells 1 [.int .i64 0, .int .i64 0])
  generalize Ha.alloc (.cells 1 [.int .i64 0, .int .i64 0]) = Hc at ga
  obtain ⟨N, rfl⟩ := Int.eq_ofNat_of_zero_le hn.1
  have hin' : ∀ s ∈ l, 0 ≤ s ∧ s.toNat < N := fun s hs => by have := hin s hs; omega
  have hsort : l.Pairwise (· < ·) := by
    simp only [isGraph, Bool.and_eq_true] at hg
    exact (initOK_sorted hg.1.2).1
  obtain ⟨d, b, K, V, hbfs, B⟩ := bfs_spec (N := N) (es := es) ge hin' hsort
  have hrd : distOf (N : Int) l es = d := by
    unfold distOf
    rw [Int.toNat_natCast]
    exact B.rounds ge (by simp [dist0]) (fun u u0 u1 => dist0_get u u0 u1)
  obtain ⟨cd, cb, H1, b1, b2, b3, b4⟩ := f47_is (M := M) (Nat.le_trans hM ga.next) (ci := ci) hn (he.grow ga) ge hes (hi.grow ga) h1 hin (F := N + 1) (by omega) (by rw [Int.toNat_natCast]; exact hbfs)
  have g1 := ga.trans b2
  obtain ⟨call, H2, c1, c2, c3⟩ := f56_is (M := M) (Nat.le_trans hM g1.next) (ci := ci) hn (he.grow g1) ge hes (hi.grow g1) h1 hin (F := N + 1) (by omega) (by rw [Int.toNat_natCast]; exact hbfs) (by rw [Int.toNat_natCast]; exact B.dl)
  have g2 := g1.trans c2
  have hall : allOf (N : Int) l es = unc es d [] 0 es := by unfold allOf; rw [hrd]
  rw [hall, hrd]
  generalize hA : unc es d [] 0 es = all at c3
  have hmem : ∀ i ∈ all, okI es i ∧ d.getD (frOf es i).toNat 0 ≠ -1 := fun i hi => by
    rw [← hA, unc_ok] at hi; exact ⟨hi.1, hi.2.1⟩
  have hal : all.length ≤ 60 := by have := unc_len (es := es) (far := d) (T := []) es 0; rw [hA] at this; omega
  have hnd : all.Nodup := by
    have := (unc_sorted (es := es) (far := d) (T := []) es 0).1
    rw [hA] at this
    exact this.imp (fun h e => by omega)
  have g4 : Grow H2 ((H2.alloc (.map [])).alloc (.cells 5 [.int .i64 (N : Int), ci, ce, .map H2.next, .int .i64 most])) := (Grow.alloc H2 _).trans (.alloc _ _)
  have hxg : ((H2.alloc (.map [])).alloc (.cells 5 [.int .i64 (N : Int), ci, ce, .map H2.next, .int .i64 most])).get H2.next = some (.map []) := by
    rw [alloc_old (by simp), alloc_new]
  have htr : Tr M.lim ((H2.alloc (.map [])).alloc (.cells 5 [.int .i64 (N : Int), ci, ce, .map H2.next, .int .i64 most])) (H2.alloc (.map [])).next H2.next (N : Int) most ci ce :=
    ⟨by simp, alloc_new _ _, by simp; omega, ⟨_, hxg⟩, Nat.le_trans hM g2.next⟩
  generalize hHb : (H2.alloc (.map [])).alloc (.cells 5 [.int .i64 (N : Int), ci, ce, .map H2.next, .int .i64 most]) = Hb at g4 hxg htr
  have g5 := g2.trans g4
  have gd := b3.ints.grow (c2.trans g4)
  have gb := b4.ints.grow (c2.trans g4)
  have gal := c3.ints.grow g4
  obtain ⟨H3, d1, d2⟩ := f32_1_is (M := M) (cb := cb) htr (he.grow g5) ge gd B.dl gal (by omega) (fun i hi => (hmem i hi).1) hnd all.length 0 Hb (by omega) (.refl _ _) (by rw [List.take_zero]; exact hxg)
  have e0 : ((0 : Nat) : Int) = 0 := rfl
  rw [e0, List.drop_zero] at d2
  have hback : ∀ H', GrowX H2.next Hb H' → Grow H H' := fun H' g => ⟨Nat.le_trans g5.next g.next, fun i hi => by
    rw [g.keep i (Nat.lt_of_lt_of_le hi g5.next) (by have := g2.next; omega)]; exact g5.keep i hi⟩
  simp only [b1, Option.bind_some, asA_agg, headC_cons, asI_int, List.drop_succ_cons, List.drop_zero, List.length_nil, if_true, c1, asC_c, hHb, gal.len]
  by_cases hany : all.any (tooFar most d es) = true
  · rw [if_pos hany] at d2
    refine ⟨.nilSlice, 25, H3, d2, hback _ d1, ?_⟩
    rw [if_pos hany]; exact ⟨rfl, rfl⟩
  · rw [if_neg hany] at d2
    obtain ⟨d2, d3⟩ := d2
    have hti : TI Hb H3 H2.next .nilSlice [] all := ⟨d1, d3, hnd, Own.nil d1.next 3, fun p hp => by cases hp⟩
    obtain ⟨c, H', ps, z1, z2, z3, z4, z5⟩ := f32_2_is (M := M) htr (by omega) (Nat.le_trans hM g5.next) (he.grow g5) ge hes hm.2 B gd gb gal hal hmem (by cases h : all.any (tooFar most d es) with
      | true => exact absurd h hany
      | false => rfl) all.length 0 H3 .nilSlice [] all (by omega) hti (fun k => by simp) (fun q w hq => by simp at hq) (by simp) (fun k hk => by simp at hk)
    rw [e0] at z1
    refine ⟨c, 0, H', by rw [d2]; exact z1, hback _ z2, ?_⟩
    rw [if_neg hany]
    exact ⟨rfl, _, ps, z3, z4, z5⟩
end tour

/-! ### steps counted -/
theorem cov1s_count {es : List E} {k : Nat} : ∀ (st : List Int) (A : List Int × List Int), (∀ i ∈ st, okI es i) → A.2.length = es.length → 0 ≤ A.2.getD k 0 → A.2.getD k 0 + st.length ≤ 1000000000 →
    (st.foldl (cov1 es) A).2.getD k 0 = A.2.getD k 0 + (st.count (k : Int) : Nat)
  | [], A, _, _, _, _ => by simp
  | i :: st, A, h1, h2, h3, h4 => by
    obtain ⟨i0, i1⟩ := okI_lt (h1 i (by simp))
    simp only [List.length_cons] at h4
    have hb : (bump A.2 i).getD k 0 = A.2.getD k 0 + if i = (k : Int) then 1 else 0 := by
      unfold bump
      rw [getD_set (by rw [h2]; exact i1)]
      by_cases e : i = (k : Int)
      · subst e
        rw [if_pos (by simp), if_pos rfl, Int.toNat_natCast, wrap_in (by omega) (by omega)]
      · rw [if_neg (by omega), if_neg e]; omega
    have := cov1s_count (k := k) st (cov1 es A i) (fun j hj => h1 j (by simp [hj])) (by simp [cov1, bump_length, h2]) (by simp only [cov1, hb]; split <;> omega) (by simp only [cov1, hb]; split <;> omega)
    rw [List.foldl_cons, this]
    simp only [cov1, hb, List.count_cons, beq_iff_eq]
    split <;> simp <;> omega
theorem covs_count {es : List E} {k : Nat} : ∀ (ws : List Wk) (A : List Int × List Int), (∀ w ∈ ws, ∀ i ∈ w.st, okI es i) → A.2.length = es.length → 0 ≤ A.2.getD k 0 → A.2.getD k 0 + (ws.map Wk.st).flatten.length ≤ 1000000000 →
    (ws.foldl (covW es) A).2.getD k 0 = A.2.getD k 0 + ((ws.map Wk.st).flatten.count (k : Int) : Nat)
  | [], A, _, _, _, _ => by simp
  | w :: ws, A, h1, h2, h3, h4 => by
    simp only [List.map_cons, List.flatten_cons, List.length_append] at h4 ⊢
    have hw := cov1s_count (es := es) (k := k) w.st (bump A.1 w.f, A.2) (h1 w (by simp)) h2 h3 (by simp only; omega)
    have hc := List.count_le_length (a := (k : Int)) (l := w.st)
    have hcw : (covW es A w).2.getD k 0 = A.2.getD k 0 + (w.st.count (k : Int) : Nat) := hw
    have := covs_count (k := k) ws (covW es A w) (fun w' hw' => h1 w' (by simp [hw'])) (by rw [(covW_length es A w).2]; exact h2) (by rw [hcw]; omega) (by rw [hcw]; omega)
    rw [List.foldl_cons, this, hcw, List.count_append]
    omega
theorem cov_count {n : Nat} {es : List E} {ws : List Wk} (h1 : ∀ w ∈ ws, ∀ i ∈ w.st, okI es i) (h2 : (ws.map Wk.st).flatten.length ≤ 1000000000) (k : Nat) : (cov n es ws).2.getD k 0 = ((ws.map Wk.st).flatten.count (k : Int) : Nat) := by
  have hz : (List.replicate es.length (0 : Int)).getD k 0 = 0 := by
    rw [List.getD_eq_getElem?_getD, List.getElem?_replicate]; split <;> rfl
  have := covs_count (es := es) (k := k) ws (List.replicate n 0, List.replicate es.length 0) h1 (by simp) (by rw [hz]; omega) (by rw [hz]; omega)
  unfold cov
  rw [this, hz]; omega
theorem cov_nil (n : Nat) (es : List E) (k : Nat) : (cov n es []).2.getD k 0 = 0 := by
  rw [cov_count (fun w hw => by cases hw) (by simp)]; simp
end Go.Proofs.Ytnnjklkfcleleaa.R
