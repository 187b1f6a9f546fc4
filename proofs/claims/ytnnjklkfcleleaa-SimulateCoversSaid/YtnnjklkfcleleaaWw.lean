/-
  CHAPTER 20: covers: walks that come in, their copies, coverage of the program, DeleteFunc.
-/
import Derived.Test.YtnnjklkfcleleaaWv
import Derived.Test.YtnnjklkfcleleaaVu
namespace Go.Proofs.Ytnnjklkfcleleaa.R
open Go Go.Proofs.Ytnnjklkfcleleaa.Vm
set_option linter.unusedVariables false
set_option linter.unusedSimpArgs false
variable {M : Mach}

/-! ### what comes in -/
theorem ints_ofN {H : Heap} {c : C} {rows : List (List C)} (h : Sl H c 1 rows) (ht : ∀ r ∈ rows, rowN H [.int .i64] r) : ∃ l, Ints H c l ∧ l.length = rows.length := by
  have key : ∀ rows : List (List C), (∀ r ∈ rows, rowN H [.int .i64] r) → ∃ l : List Int, rows = l.map rowI := by
    intro rows
    induction rows with
    | nil => intro _; exact ⟨[], rfl⟩
    | cons r rs ih =>
      intro h
      obtain ⟨l, hl⟩ := ih fun x hx => h x (by simp [hx])
      have hr := h r (by simp)
      simp only [rowN, cellN] at hr
      obtain ⟨c, r', rfl, ⟨n, rfl, _⟩, rfl⟩ := hr
      exact ⟨n :: l, by rw [hl]; rfl⟩
  obtain ⟨l, rfl⟩ := key rows ht
  exact ⟨l, h, by simp⟩
theorem eds_ofN {H : Heap} {c : C} {rows : List (List C)} (h : Sl H c 3 rows) (ht : ∀ r ∈ rows, rowN H [.int .i64, .int .i64, .int .i64] r) : ∃ es, Eds H c es ∧ es.length = rows.length := by
  have key : ∀ rows : List (List C), (∀ r ∈ rows, rowN H [.int .i64, .int .i64, .int .i64] r) → ∃ l : List E, rows = l.map rowE := by
    intro rows
    induction rows with
    | nil => intro _; exact ⟨[], rfl⟩
    | cons r rs ih =>
      intro h
      obtain ⟨l, hl⟩ := ih fun x hx => h x (by simp [hx])
      have hr := h r (by simp)
      simp only [rowN, cellN] at hr
      obtain ⟨c, r', rfl, ⟨n, rfl, _⟩, c2, r2, rfl, ⟨n2, rfl, _⟩, c3, r3, rfl, ⟨n3, rfl, _⟩, rfl⟩ := hr
      exact ⟨⟨n, n2, n3⟩ :: l, by rw [hl]; rfl⟩
  obtain ⟨l, rfl⟩ := key rows ht
  exact ⟨l, h, by simp⟩
theorem wks_ofN {H : Heap} {c : C} {rows : List (List C)} (h : Sl H c 3 rows) (ht : ∀ r ∈ rows, rowN H [.int .i64, .sl [.int .i64], .bool] r) : ∃ ps, Wks H c ps ∧ ps.length = rows.length := by
  have key : ∀ rows : List (List C), (∀ r ∈ rows, rowN H [.int .i64, .sl [.int .i64], .bool] r) → ∃ ps : List (Wk × C), rows = ps.map rowW ∧ ∀ p ∈ ps, Ints H p.2 p.1.st := by
    intro rows
    induction rows with
    | nil => intro _; exact ⟨[], rfl, fun _ h => by cases h⟩
    | cons r rs ih =>
      intro h
      obtain ⟨ps, hl, hp⟩ := ih fun x hx => h x (by simp [hx])
      have hr := h r (by simp)
      simp only [rowN, cellN] at hr
      obtain ⟨c, r', rfl, ⟨n, rfl, _⟩, c2, r2, rfl, ⟨rows2, k1, k2, _⟩, c3, r3, rfl, ⟨b, rfl⟩, rfl⟩ := hr
      obtain ⟨st, hst, _⟩ := ints_ofN k1 fun r hr => by simp only [rowN, cellN]; exact k2 r hr
      refine ⟨(⟨n, st, b⟩, c2) :: ps, by rw [hl]; rfl, fun p hp' => ?_⟩
      rcases List.mem_cons.1 hp' with rfl | hp'
      · exact hst
      · exact hp p hp'
  obtain ⟨ps, rfl, hp⟩ := key rows ht
  exact ⟨ps, ⟨h, hp⟩, by simp⟩

/-! ### short -/
def shortL (ws : List Wk) : Bool := !((decide (20 < ws.length) && decide (ws.length ≤ 60)) || decide (62 < ws.length)) && ws.all fun w => shortOK w.st.length
theorem f30_1_is {H : Heap} {lc : C} {ps : List (Wk × C)} (hw : Wks H lc ps) (hps : ps.length ≤ 1000000) : ∀ (d k : Nat), k + d = ps.length → f30_1 M lc (k : Int) H = some (.c (.bool ((ps.drop k).all fun p => shortOK p.1.st.length)), H) := by
  intro d
  induction d with
  | zero =>
    intro k hk
    rw [f30_1_eq, List.drop_of_length_le (by omega)]
    simp only [hw.len, Option.bind_some, show ¬ ((k : Int) < ps.length) by omega, decide_false, Bool.false_eq_true, if_false, List.all_nil]
  | succ d ih =>
    intro k hk
    have hlt : k < ps.length := by omega
    obtain ⟨q, a1, a2, a3, a4, a5⟩ := hw.read (List.getElem?_eq_getElem hlt)
    have hi := ih (k + 1) (by omega)
    have e1 : decide ((60 : Int) < ps[k].1.st.length) = decide (60 < ps[k].1.st.length) := by rw [decide_eq_decide]; omega
    have e2 : decide ((ps[k].1.st.length : Int) ≤ 300) = decide (ps[k].1.st.length ≤ 300) := by rw [decide_eq_decide]; omega
    have e3 : decide ((302 : Int) < ps[k].1.st.length) = decide (302 < ps[k].1.st.length) := by rw [decide_eq_decide]; omega
    rw [f30_1_eq, List.drop_eq_getElem_cons hlt, List.all_cons]
    simp only [hw.len, Option.bind_some, show ((k : Int) < ps.length) by omega, decide_true, if_true, a1, a3, a5.len, e1, e2, e3, wrap_succ (show k ≤ 1000000000 by omega), hi, shortOK]
    cases decide (60 < ps[k].1.st.length) <;> cases decide (ps[k].1.st.length ≤ 300) <;> cases decide (302 < ps[k].1.st.length) <;> simp <;> simpa [shortOK] using hi
theorem f30_is {H : Heap} {lc : C} {ps : List (Wk × C)} (hw : Wks H lc ps) : f30 M lc H = some (.c (.bool (shortL (ps.map Prod.fst))), H) := by
  have e1 : decide ((20 : Int) < ps.length) = decide (20 < ps.length) := by rw [decide_eq_decide]; omega
  have e2 : decide ((ps.length : Int) ≤ 60) = decide (ps.length ≤ 60) := by rw [decide_eq_decide]; omega
  have e3 : decide ((62 : Int) < ps.length) = decide (62 < ps.length) := by rw [decide_eq_decide]; omega
  have hall : ((ps.map Prod.fst).all fun w => shortOK w.st.length) = ps.all fun p => shortOK p.1.st.length := by rw [List.all_map]; rfl
  rw [f30_eq]
  simp only [hw.len, Option.bind_some, e1, e2, e3, shortL, List.length_map, hall]
  by_cases hbig : 62 < ps.length
  · have h1 : ¬ ps.length ≤ 60 := by omega
    have h2 : 20 < ps.length := by omega
    simp [hbig, h1, h2]
  · have h0 := f30_1_is (M := M) hw (by omega) ps.length 0 (by omega)
    have e0 : ((0 : Nat) : Int) = 0 := rfl
    rw [e0, List.drop_zero] at h0
    simp only [hbig, decide_false, h0]
    cases decide (20 < ps.length) <;> cases decide (ps.length ≤ 60) <;> simp <;> exact h0

/-! ### copies of walks -/
theorem f37_1_is {H0 : Heap} (hM : M.lim ≤ H0.next) {lc : C} {ps : List (Wk × C)} (hw : Wks H0 lc ps) (hps : ps.length ≤ 1000000) (hin : ∀ p ∈ ps, p.1.st.length ≤ 1000000) : ∀ (d k : Nat) (H : Heap) (out : C) (qs : List (Wk × C)), k + d = ps.length → Grow H0 H → Own H H0.next out 3 (qs.map rowW) →
    (∀ p ∈ qs, Ints H p.2 p.1.st ∧ ∀ i, idOf p.2 = some i → idOf out ≠ some i) → qs.map Prod.fst = (ps.take k).map Prod.fst →
    ∃ c H' rs, f37_1 M lc out (k : Int) H = some (.c c, H') ∧ Grow H0 H' ∧ Wks H' c rs ∧ rs.map Prod.fst = ps.map Prod.fst := by
  intro d
  induction d with
  | zero =>
    intro k H out qs hk g ho he hq
    refine ⟨out, H, qs, ?_, g, ⟨ho.sl, fun p hp => (he p hp).1⟩, by rw [hq, List.take_of_length_le (by omega)]⟩
    rw [f37_1_eq]
    simp only [hw.len, Option.bind_some, show ¬ ((k : Int) < ps.length) by omega, decide_false, Bool.false_eq_true, if_false]
  | succ d ih =>
    intro k H out qs hk g ho he hq
    have hlt : k < ps.length := by omega
    have hql : qs.length = k := by have := congrArg List.length hq; simpa [Nat.min_eq_left (Nat.le_of_lt hlt)] using this
    obtain ⟨q, a1, a2, a3, a4, a5⟩ := (hw.grow g).read (List.getElem?_eq_getElem hlt)
    obtain ⟨c', H1, b1, b2, b3⟩ := f26_is (M := M) a5 (Nat.le_trans hM g.next) (by have := hin _ (List.getElem_mem hlt); omega)
    obtain ⟨u1, c2, H2, u2, u3, u4, u5⟩ := (ho.grow b2).append1 (lim := M.lim) hM (r := rowW (ps[k].1, c')) rfl (by simp; omega)
    have hout : ∀ i, idOf out = some i → i < H.next := fun i hi => (Own.id ho hi).2
    have hnew : ∀ i, idOf c2 = some i → H1.next ≤ i := fun i hi => by
      rcases u5 with rfl | ⟨j', o', n', rfl, hj'⟩
      · cases hi
      · cases hi; exact hj'
    obtain ⟨c, H', rs, z1, z2, z3, z4⟩ := ih (k + 1) H2 c2 (qs ++ [(ps[k].1, c')]) (by omega) (Own.kept_grow (ho.grow b2) (g.trans b2) u4) (by rw [List.map_append]; exact u3) (fun p hp => by
      rcases List.mem_append.1 hp with hp | hp
      · obtain ⟨k1, k2⟩ := he p hp
        refine ⟨(k1.grow b2).kept u4 (apart_of fun i h1 h2 => k2 i h2 h1), fun i h1 h2 => ?_⟩
        have := hnew i h2; have := Sl.id k1 h1; have := b2.next; omega
      · have hp1 : p = (ps[k].1, c') := by simpa using hp
        subst hp1
        refine ⟨b3.ints.kept u4 (apart_of fun i h1 h2 => ?_), fun i h1 h2 => ?_⟩
        · have := hout i h1; have := (Own.id b3 h2).1; omega
        · have := hnew i h2; have := (Own.id b3 h1).2; omega) (by rw [List.map_append, hq, List.take_succ_eq_append_getElem hlt, List.map_append]; rfl)
    refine ⟨c, H', rs, ?_, z2, z3, z4⟩
    rw [f37_1_eq]
    unfold rowW at u1 u2
    simp only [hw.len, Option.bind_some, show ((k : Int) < ps.length) by omega, decide_true, if_true, a1, a2, a3, a4, asI_int, asB_bool, f29_eq, b1, asC_c, asA_agg, headC_cons, List.drop_succ_cons, List.drop_zero, List.length_nil, u1, u2, wrap_succ (show k ≤ 1000000000 by omega)]
    exact z1
theorem f37_is {H : Heap} (hM : M.lim ≤ H.next) {lc : C} {ps : List (Wk × C)} (hw : Wks H lc ps) (hps : ps.length ≤ 1000000) (hin : ∀ p ∈ ps, p.1.st.length ≤ 1000000) : ∃ c H' rs, f37 M lc H = some (.c c, H') ∧ Grow H H' ∧ Wks H' c rs ∧ rs.map Prod.fst = ps.map Prod.fst := by
  obtain ⟨c, H', rs, h1, h2⟩ := f37_1_is (M := M) hM hw hps hin ps.length 0 H .nilSlice [] (by omega) (.refl _) (Own.nil (Nat.le_refl _) 3) (fun p hp => by cases hp) rfl
  exact ⟨c, H', rs, by rw [f37_eq]; exact h1, h2⟩

/-! ### walks are checked: the program -/
section
variable {n : Int} {ci ce lc c0 c1 y0 y1 : C} {es : List E} {H0 : Heap} {il : List Int} {ps : List (Wk × C)}
theorem f58_1_is (hg : isGraph n il es = true) (hi : Ints H0 ci il) (he : Eds H0 ce es) (h0 : il.length ≤ 1000000) (h1 : es.length ≤ 1000000) (hw : Wks H0 lc ps) (hps : ps.length ≤ 1000000) (hin : ∀ p ∈ ps, p.1.st.length ≤ 1000000) : ∀ (d j : Nat), j + d = ps.length →
    f58_1 M n ci ce lc (ps.length : Int) (j : Int) H0 = some (.c (.int .i64 (firstBad n il es ((ps.drop j).map Prod.fst))), H0) := by
  intro d
  induction d with
  | zero =>
    intro j hj
    rw [f58_1_eq, List.drop_of_length_le (by omega)]
    simp only [show ¬ ((j : Int) < ps.length) by omega, decide_false, Bool.false_eq_true, if_false]
    rfl
  | succ d ih =>
    intro j hj
    have hlt : j < ps.length := by omega
    obtain ⟨q, a1, a2, a3, a4, a5⟩ := hw.read (List.getElem?_eq_getElem hlt)
    have b1 := f55_is (M := M) (n := n) (x := ps[j].1.f) (b := ps[j].1.b) hi he a5 h0 h1 (hin _ (List.getElem_mem hlt))
    have z1 := ih (j + 1) (by omega)
    have hc : checkRes n il es ps[j].1.f ps[j].1.st = walkRes il es ps[j].1.f ps[j].1.st := by unfold checkRes; rw [if_pos hg]
    rw [f58_1_eq, List.drop_eq_getElem_cons hlt]
    simp only [show ((j : Int) < ps.length) by omega, decide_true, if_true, a1, a2, a3, a4, Option.bind_some, asI_int, asB_bool, b1, pairV, ext_tuple, List.getElem?_cons_zero, List.getElem?_cons_succ, asC_c, List.map_cons, firstBad, hc, wrap_succ (show j ≤ 1000000000 by omega)]
    by_cases hz : (walkRes il es ps[j].1.f ps[j].1.st).2 = 0
    · simp only [hz, decide_true, Bool.not_true, Bool.false_eq_true, if_false, ne_eq, not_true]
      exact z1
    · simp only [hz, decide_false, Bool.not_false, if_true, ne_eq, not_false_iff]
def wErr (n : Int) (il : List Int) (es : List E) (ws : List Wk) : Int := if isGraph n il es = true then (if 60 < ws.length then 2 else firstBad n il es ws) else 5
theorem f58_is {H : Heap} (hi : Ints H ci il) (he : Eds H ce es) (h0 : il.length ≤ 1000000) (h1 : es.length ≤ 1000000) (hw : Wks H lc ps) (hps : ps.length ≤ 1000000) (hin : ∀ p ∈ ps, p.1.st.length ≤ 1000000) :
    ∃ H', f58 M n ci ce lc H = some (.c (.int .i64 (wErr n il es (ps.map Prod.fst))), H') ∧ Grow H H' := by
  obtain ⟨Ha, a1, a2⟩ := f46_is (M := M) (n := n) hi he h0 h1
  have hl := OInts.lit Ha (Nat.le_refl Ha.next) [if isGraph n il es = true then 0 else 5, if decide ((ps.length : Int) ≤ 60) = true then 0 else 2] rfl (n := 2) rfl
  have herr := f41_is (M := M) hl.ints (by simp)
  simp only [List.map_cons, List.map_nil] at herr
  have ga := a2.to_alloc (.cells 1 [.int .i64 (if isGraph n il es = true then 0 else 5), .int .i64 (if decide ((ps.length : Int) ≤ 60) = true then 0 else 2)])
  refine ⟨_, ?_, ga⟩
  rw [f58_eq]
  simp only [a1, Option.bind_some, asC_c, asI_int, hw.len, f43_is, herr]
  by_cases hg : isGraph n il es = true
  · by_cases hb : 60 < ps.length
    · simp [wErr, hg, hb, show ¬ ((ps.length : Int) ≤ 60) by omega, firstErr]
    · have h2 := f58_1_is (M := M) (n := n) hg (hi.grow ga) (he.grow ga) h0 h1 (hw.grow ga) hps hin ps.length 0 (by omega)
      have e0 : ((0 : Nat) : Int) = 0 := rfl
      rw [e0, List.drop_zero] at h2
      simp only [hg, if_true, show ((ps.length : Int) ≤ 60) by omega, decide_true] at h2 ⊢
      simp only [firstErr, if_true, decide_true, Bool.not_true, Bool.false_eq_true, if_false, wErr, hg, List.length_map, hb, ne_eq, not_true]
      exact h2
  · simp [wErr, hg, firstErr]

/-! ### coverage: the program -/
theorem f59_2_is (hM : M.lim ≤ H0.next) {N : Nat} (he : Eds H0 ce es) (ge : goodE (N : Int) es) {L : Int} {j : Nat} {w : Wk} {cs : C} (hcs : Ints H0 cs w.st) (hin : wIn N es w) (hst : w.st.length ≤ 1000000) : ∀ (d k : Nat) (H : Heap) (A : List Int × List Int), k + d = w.st.length →
    Two H0 H c0 c1 A → A.1.length = N → A.2.length = es.length →
    ∃ H', f59_2 M n ci ce y0 y1 c0 c1 lc L (j : Int) cs (w.st.length : Int) (k : Int) H = f59_1 M n ci ce y0 y1 c0 c1 lc L (IntKind.wrap .i64 ((j : Int) + 1)) H' ∧ Two H0 H' c0 c1 ((w.st.drop k).foldl (cov1 es) A) := by
  intro d
  induction d with
  | zero =>
    intro k H A hk h h1 h2
    refine ⟨H, ?_, by rw [List.drop_of_length_le (by omega)]; exact h⟩
    rw [f59_2_eq]
    simp only [show ¬ ((k : Int) < w.st.length) by omega, decide_false, Bool.false_eq_true, if_false]
  | succ d ih =>
    intro k H A hk h h1 h2
    have hlt : k < w.st.length := by omega
    obtain ⟨q6, b1, b2⟩ := (hcs.grow h.g).read (List.getElem?_eq_getElem hlt)
    have hok : okI es w.st[k] := hin.2.2 _ (List.getElem_mem hlt)
    obtain ⟨k0, k1⟩ := okI_lt hok
    obtain ⟨t0, t1⟩ := toOf_in ge hok
    obtain ⟨q14, e1, e2, e3⟩ := (he.grow h.g).target2 hok
    obtain ⟨q20, g1, g2⟩ := h.o0.ints.readI t0 (getD_of (l := A.1) (by rw [h1]; exact t1) 0)
    obtain ⟨q23, H24, i1, i2, i3⟩ := h.set0 (lim := M.lim) hM t0 (by rw [h1]; exact t1) (IntKind.wrap .i64 (A.1.getD (toOf es w.st[k]).toNat 0 + 1))
    rw [g1] at i1; cases i1
    obtain ⟨q9, c1', c2'⟩ := i3.o1.ints.readI k0 (getD_of (l := A.2) (by rw [h2]; exact k1) 0)
    obtain ⟨q12, H13, d1, d2, d3⟩ := i3.set1 (lim := M.lim) hM k0 (by rw [h2]; exact k1) (IntKind.wrap .i64 (A.2.getD w.st[k].toNat 0 + 1))
    rw [c1'] at d1; cases d1
    obtain ⟨H', z1, z2⟩ := ih (k + 1) H13 (cov1 es A w.st[k]) (by omega) d3 (by simp [cov1, bump_length, h1]) (by simp [cov1, bump_length, h2])
    refine ⟨H', ?_, by rw [List.drop_eq_getElem_cons hlt, List.foldl_cons]; exact z2⟩
    rw [f59_2_eq]
    simp only [Option.bind_some, show ((k : Int) < w.st.length) by omega, decide_true, if_true, b1, b2, asI_int, c1', c2', d2, e1, e2, e3, g1, g2, i2, wrap_succ (show k ≤ 1000000000 by omega)]
    exact z1
theorem f59_1_is (hM : M.lim ≤ H0.next) {N : Nat} (he : Eds H0 ce es) (ge : goodE (N : Int) es) (hw : Wks H0 lc ps) (hin : ∀ p ∈ ps, wIn N es p.1 ∧ p.1.st.length ≤ 1000000) (hps : ps.length ≤ 1000000) : ∀ (d j : Nat) (H : Heap) (A : List Int × List Int), j + d = ps.length →
    Two H0 H c0 c1 A → A.1.length = N → A.2.length = es.length →
    ∃ H', f59_1 M n ci ce y0 y1 c0 c1 lc (ps.length : Int) (j : Int) H = some (.agg [c0, c1], H') ∧ Two H0 H' c0 c1 (((ps.drop j).map Prod.fst).foldl (covW es) A) := by
  intro d
  induction d with
  | zero =>
    intro j H A hj h h1 h2
    refine ⟨H, ?_, by rw [List.drop_of_length_le (by omega)]; exact h⟩
    rw [f59_1_eq]
    simp only [show ¬ ((j : Int) < ps.length) by omega, decide_false, Bool.false_eq_true, if_false]
  | succ d ih =>
    intro j H A hj h h1 h2
    have hlt : j < ps.length := by omega
    have hp := List.getElem?_eq_getElem hlt
    obtain ⟨q, a1, a2, a3, a4, a5⟩ := (hw.grow h.g).read hp
    obtain ⟨w1, w2⟩ := hin _ (List.getElem_mem hlt)
    obtain ⟨q8, b1, b2⟩ := h.o0.ints.readI w1.1 (getD_of (by rw [h1]; exact w1.2.1) 0)
    obtain ⟨q11, H12, c1', c2', c3'⟩ := h.set0 (lim := M.lim) hM w1.1 (by rw [h1]; exact w1.2.1) (IntKind.wrap .i64 (A.1.getD ps[j].1.f.toNat 0 + 1))
    rw [b1] at c1'; cases c1'
    obtain ⟨H1, d1, d2⟩ := f59_2_is (M := M) (n := n) (ci := ci) (y0 := y0) (y1 := y1) (lc := lc) (L := (ps.length : Int)) (j := j) hM he ge (hw.2 _ (List.getElem_mem hlt)) w1 w2 ps[j].1.st.length 0 H12 _ (by omega) c3' (by simp [h1]) h2
    have e0 : ((0 : Nat) : Int) = 0 := rfl
    rw [e0] at d1
    rw [List.drop_zero] at d2
    obtain ⟨k1, k2⟩ := cov1s_length es ps[j].1.st (A.1.set ps[j].1.f.toNat (IntKind.wrap .i64 (A.1.getD ps[j].1.f.toNat 0 + 1)), A.2)
    obtain ⟨H', z1, z2⟩ := ih (j + 1) H1 _ (by omega) d2 (by rw [k1]; simp [h1]) (by rw [k2]; exact h2)
    refine ⟨H', ?_, by rw [List.drop_eq_getElem_cons hlt, List.map_cons, List.foldl_cons]; exact z2⟩
    rw [f59_1_eq]
    simp only [Option.bind_some, show ((j : Int) < ps.length) by omega, decide_true, if_true, a1, a2, a3, a4, asI_int, asB_bool, b1, b2, c2', a5.len, d1, wrap_succ (show j ≤ 1000000000 by omega)]
    exact z1
theorem f59_is {H : Heap} (hM : M.lim ≤ H.next) (hn : 0 ≤ n ∧ n ≤ 400) (he : Eds H ce es) (ge : goodE n es) (hes : es.length ≤ 1000000) (hw : Wks H lc ps) (hin : ∀ p ∈ ps, wIn n.toNat es p.1 ∧ p.1.st.length ≤ 1000000) (hps : ps.length ≤ 1000000) :
    ∃ c0 c1 H', f59 M n ci ce lc H = some (.agg [c0, c1], H') ∧ Two H H' c0 c1 (cov n.toNat es (ps.map Prod.fst)) := by
  obtain ⟨N, rfl⟩ := Int.eq_ofNat_of_zero_le hn.1
  simp only [Int.toNat_natCast] at hin ⊢
  have ht := two_made H N es.length
  obtain ⟨H', a1, a2⟩ := f59_1_is (M := M) (n := (N : Int)) (ci := ci) (y0 := .nilSlice) (y1 := .nilSlice) hM he ge hw hin hps ps.length 0 _ _ (by omega) ht (by simp) (by simp)
  have e0 : ((0 : Nat) : Int) = 0 := rfl
  rw [e0] at a1
  refine ⟨_, _, H', ?_, by rw [List.drop_zero] at a2; exact a2⟩
  rw [f59_eq]
  simp only [show (0 : Int) ≤ (N : Int) ∧ (N : Int) ≤ 2 ^ 36 by omega, and_self, if_true, he.len, hw.len, Option.bind_some, show (0 : Int) ≤ (es.length : Int) ∧ (es.length : Int) ≤ 2 ^ 36 by omega, Int.toNat_natCast]
  exact a1
end
end Go.Proofs.Ytnnjklkfcleleaa.R
