/-
  CHAPTER 20: the law of covers.
-/
import Derived.Test.YtnnjklkfcleleaaWx
namespace Go.Proofs.Ytnnjklkfcleleaa.R
open Go Go.Proofs.Ytnnjklkfcleleaa.Vm
set_option linter.unusedVariables false
set_option linter.unusedSimpArgs false
variable {M : Mach}

/-! ### sums -/
def isum : List Int → Int
  | [] => 0
  | x :: xs => x + isum xs
def nneg (l : List Int) : Prop := ∀ x ∈ l, 0 ≤ x
theorem isum_append : ∀ a b : List Int, isum (a ++ b) = isum a + isum b
  | [], b => by simp [isum]
  | x :: a, b => by simp only [List.cons_append, isum, isum_append a b]; omega
theorem isum_nonneg : ∀ {l : List Int}, nneg l → 0 ≤ isum l
  | [], _ => by simp [isum]
  | x :: l, h => by
    have := isum_nonneg (l := l) fun y hy => h y (by simp [hy])
    have := h x (by simp)
    simp only [isum]; omega
theorem isum_get : ∀ {l : List Int} {j : Nat}, nneg l → l.getD j 0 ≤ isum l ∧ 0 ≤ l.getD j 0
  | [], j, _ => by simp [isum]
  | x :: l, 0, h => by
    have := isum_nonneg (l := l) fun y hy => h y (by simp [hy])
    have := h x (by simp)
    simp only [isum, List.getD_cons_zero]; omega
  | x :: l, j + 1, h => by
    have := isum_get (l := l) (j := j) fun y hy => h y (by simp [hy])
    have := h x (by simp)
    simp only [isum, List.getD_cons_succ]; omega
theorem isum_set : ∀ {l : List Int} {j : Nat} (x : Int), j < l.length → isum (l.set j x) = isum l - l.getD j 0 + x
  | [], j, x, h => by simp at h
  | y :: l, 0, x, _ => by simp only [List.set_cons_zero, isum, List.getD_cons_zero]; omega
  | y :: l, j + 1, x, h => by
    have := isum_set (l := l) (j := j) x (by simpa using h)
    simp only [List.set_cons_succ, isum, List.getD_cons_succ, this]; omega
theorem bump_sum {l : List Int} {i : Int} (hi : i.toNat < l.length) (h : nneg l) (hb : isum l ≤ 1000000000) : isum (bump l i) = isum l + 1 ∧ nneg (bump l i) := by
  obtain ⟨g1, g2⟩ := isum_get (j := i.toNat) h
  have hw : IntKind.wrap .i64 (l.getD i.toNat 0 + 1) = l.getD i.toNat 0 + 1 := wrap_in (by omega) (by omega)
  refine ⟨by unfold bump; rw [isum_set _ hi, hw]; omega, fun x hx => ?_⟩
  unfold bump at hx
  rw [hw] at hx
  rcases List.mem_or_eq_of_mem_set hx with hx | rfl
  · exact h x hx
  · omega
theorem cov1s_sum {N : Nat} {es : List E} (ge : goodE (N : Int) es) : ∀ (st : List Int) (A : List Int × List Int), (∀ i ∈ st, okI es i) → A.1.length = N → A.2.length = es.length → nneg A.1 → nneg A.2 → isum A.1 + st.length ≤ 1000000000 → isum A.2 + st.length ≤ 1000000000 →
    isum (st.foldl (cov1 es) A).1 = isum A.1 + st.length ∧ isum (st.foldl (cov1 es) A).2 = isum A.2 + st.length ∧ nneg (st.foldl (cov1 es) A).1 ∧ nneg (st.foldl (cov1 es) A).2
  | [], A, _, _, _, h1, h2, _, _ => by simp; exact ⟨h1, h2⟩
  | i :: st, A, hi, l1, l2, h1, h2, b1, b2 => by
    have hok := hi i (by simp)
    obtain ⟨i0, i1⟩ := okI_lt hok
    obtain ⟨t0, t1⟩ := toOf_in ge hok
    simp only [List.length_cons] at b1 b2
    obtain ⟨p1, p2⟩ := bump_sum (l := A.1) (i := toOf es i) (by omega) h1 (by omega)
    obtain ⟨q1, q2⟩ := bump_sum (l := A.2) (i := i) (by omega) h2 (by omega)
    obtain ⟨r1, r2, r3⟩ := cov1s_sum ge st (cov1 es A i) (fun j hj => hi j (by simp [hj])) (by simp [cov1, bump_length, l1]) (by simp [cov1, bump_length, l2]) p2 q2 (by simp only [cov1, p1]; omega) (by simp only [cov1, q1]; omega)
    simp only [List.foldl_cons, List.length_cons]
    simp only [cov1, p1, q1] at r1 r2
    exact ⟨by rw [show (List.foldl (cov1 es) (cov1 es A i) st).1 = (List.foldl (cov1 es) (bump A.1 (toOf es i), bump A.2 i) st).1 from rfl, r1]; omega, by rw [show (List.foldl (cov1 es) (cov1 es A i) st).2 = (List.foldl (cov1 es) (bump A.1 (toOf es i), bump A.2 i) st).2 from rfl, r2]; omega, r3⟩
theorem covs_sum {N : Nat} {es : List E} (ge : goodE (N : Int) es) : ∀ (ws : List Wk) (A : List Int × List Int), (∀ w ∈ ws, wIn N es w) → A.1.length = N → A.2.length = es.length → nneg A.1 → nneg A.2 →
    isum A.1 + ws.length + (ws.map Wk.st).flatten.length ≤ 1000000000 → isum A.2 + (ws.map Wk.st).flatten.length ≤ 1000000000 →
    isum (ws.foldl (covW es) A).1 = isum A.1 + ws.length + (ws.map Wk.st).flatten.length ∧ isum (ws.foldl (covW es) A).2 = isum A.2 + (ws.map Wk.st).flatten.length ∧ nneg (ws.foldl (covW es) A).1 ∧ nneg (ws.foldl (covW es) A).2
  | [], A, _, _, _, h1, h2, _, _ => by simp; exact ⟨h1, h2⟩
  | w :: ws, A, hi, l1, l2, h1, h2, b1, b2 => by
    obtain ⟨w1, w2, w3⟩ := hi w (by simp)
    simp only [List.map_cons, List.flatten_cons, List.length_append, List.length_cons] at b1 b2 ⊢
    obtain ⟨p1, p2⟩ := bump_sum (l := A.1) (i := w.f) (by omega) h1 (by omega)
    obtain ⟨q1, q2, q3, q4⟩ := cov1s_sum ge w.st (bump A.1 w.f, A.2) w3 (by simp [bump_length, l1]) l2 p2 h2 (by simp only [p1]; omega) (by simp only; omega)
    obtain ⟨k1, k2⟩ := covW_length es A w
    have c1 : isum (covW es A w).1 = isum A.1 + 1 + w.st.length := by unfold covW; rw [q1]; simp only [p1]
    have c2 : isum (covW es A w).2 = isum A.2 + w.st.length := by unfold covW; rw [q2]
    obtain ⟨r1, r2, r3⟩ := covs_sum ge ws (covW es A w) (fun x hx => hi x (by simp [hx])) (by rw [k1, l1]) (by rw [k2, l2]) q3 q4 (by rw [c1]; omega) (by rw [c2]; omega)
    simp only [List.foldl_cons]
    exact ⟨by rw [r1, c1]; omega, by rw [r2, c2]; omega, r3⟩
theorem isum_zeros : ∀ m : Nat, isum (List.replicate m (0 : Int)) = 0
  | 0 => rfl
  | m + 1 => by simp [List.replicate_succ, isum, isum_zeros m]

section law
variable {n : Int} {ci ce lc x0 x1 : C} {es : List E} {il : List Int} {ps : List (Wk × C)}
theorem f9_1_is {H : Heap} {a : List Int} (h : Ints H x0 a) (hn : a.length ≤ 1000000) (hp : nneg a) (hb : isum a ≤ 1000000000) (st : Int) : ∀ (d k : Nat), k + d = a.length → f9_1 M lc x0 x1 (isum (a.take k)) st (k : Int) H = f9_2 M lc x0 x1 (isum a) st 0 H := by
  intro d
  induction d with
  | zero =>
    intro k hk
    rw [f9_1_eq]
    simp only [h.len, Option.bind_some, show ¬ ((k : Int) < a.length) by omega, decide_false, Bool.false_eq_true, if_false]
    rw [List.take_of_length_le (by omega)]
  | succ d ih =>
    intro k hk
    have hlt : k < a.length := by omega
    obtain ⟨q, h1, h2⟩ := h.read (List.getElem?_eq_getElem hlt)
    have e1 : isum (a.take (k + 1)) = isum (a.take k) + a[k] := by rw [List.take_succ_eq_append_getElem hlt, isum_append]; simp [isum]
    have e2 : isum a = isum (a.take (k + 1)) + isum (a.drop (k + 1)) := by rw [← isum_append, List.take_append_drop]
    have p1 := isum_nonneg (l := a.take (k + 1)) fun x hx => hp x (List.mem_of_mem_take hx)
    have p2 := isum_nonneg (l := a.drop (k + 1)) fun x hx => hp x (List.mem_of_mem_drop hx)
    have hw : IntKind.wrap .i64 (isum (a.take k) + a[k]) = isum (a.take (k + 1)) := by rw [← e1, wrap_in (by omega) (by omega)]
    rw [f9_1_eq]
    simp only [h.len, show ((k : Int) < a.length) by omega, decide_true, if_true, h1, h2, Option.bind_some, asI_int, hw, wrap_succ (show k ≤ 1000000000 by omega)]
    exact ih (k + 1) (by omega)
theorem f9_2_is {H : Heap} {a : List Int} {m : Nat} (h : Ints H x1 a) (hn : a.length ≤ 1000000) (hp : nneg a) (hb : isum a ≤ 1000000000) (hl : C.len lc = some m) (v : Int) : ∀ (d k : Nat), k + d = a.length → f9_2 M lc x0 x1 v (isum (a.take k)) (k : Int) H = some (.c (.bool (decide (v = IntKind.wrap .i64 ((m : Int) + isum a)))), H) := by
  intro d
  induction d with
  | zero =>
    intro k hk
    rw [f9_2_eq]
    simp only [h.len, Option.bind_some, show ¬ ((k : Int) < a.length) by omega, decide_false, Bool.false_eq_true, if_false, hl]
    rw [List.take_of_length_le (by omega)]
  | succ d ih =>
    intro k hk
    have hlt : k < a.length := by omega
    obtain ⟨q, h1, h2⟩ := h.read (List.getElem?_eq_getElem hlt)
    have e1 : isum (a.take (k + 1)) = isum (a.take k) + a[k] := by rw [List.take_succ_eq_append_getElem hlt, isum_append]; simp [isum]
    have e2 : isum a = isum (a.take (k + 1)) + isum (a.drop (k + 1)) := by rw [← isum_append, List.take_append_drop]
    have p1 := isum_nonneg (l := a.take (k + 1)) fun x hx => hp x (List.mem_of_mem_take hx)
    have p2 := isum_nonneg (l := a.drop (k + 1)) fun x hx => hp x (List.mem_of_mem_drop hx)
    have hw : IntKind.wrap .i64 (isum (a.take k) + a[k]) = isum (a.take (k + 1)) := by rw [← e1, wrap_in (by omega) (by omega)]
    rw [f9_2_eq]
    simp only [h.len, show ((k : Int) < a.length) by omega, decide_true, if_true, h1, h2, Option.bind_some, asI_int, hw, wrap_succ (show k ≤ 1000000000 by omega)]
    exact ih (k + 1) (by omega)
theorem walkGo_okI {es : List E} : ∀ (st : List Int) (s : Int), (walkGo es s st).2 = 0 → ∀ k ∈ st, okI es k
  | [], s, _, k, hk => by cases hk
  | i :: st, s, h, k, hk => by
    simp only [walkGo] at h
    split at h
    · rename_i hi
      split at h
      · rename_i e he
        split at h
        · rcases List.mem_cons.1 hk with rfl | hk
          · exact ⟨hi.1, e, he⟩
          · exact walkGo_okI st _ h k hk
        · simp at h
      · simp at h
    · simp at h
theorem firstBad_ok : ∀ (ws : List Wk), firstBad n il es ws = 0 → ∀ w ∈ ws, (checkRes n il es w.f w.st).2 = 0
  | [], _, w, hw => by cases hw
  | x :: ws, h, w, hw => by
    simp only [firstBad] at h
    split at h
    · rename_i hc; exact absurd h hc
    · rename_i hc
      rcases List.mem_cons.1 hw with rfl | hw
      · simpa using hc
      · exact firstBad_ok ws h w hw
theorem wErr_ok (hsh : shortL (ps.map Prod.fst) = true) (h : wErr n il es (ps.map Prod.fst) = 0) : Ws n il es ps := by
  unfold wErr at h
  split at h
  rotate_left
  · omega
  rename_i hg
  split at h
  · omega
  rename_i hlen
  obtain ⟨hn, hes, hin, ge⟩ := isGraph_good hg
  refine ⟨hg, fun p hp => ?_, by simpa using hlen⟩
  have hb := firstBad_ok _ h p.1 (List.mem_map_of_mem hp)
  have hst : p.1.st.length ≤ 302 := by
    simp only [shortL, Bool.and_eq_true, List.all_eq_true] at hsh
    have := hsh.2 p.1 (List.mem_map_of_mem hp)
    simp only [shortOK, Bool.not_eq_true', Bool.or_eq_false_iff, decide_eq_false_iff_not] at this
    omega
  unfold checkRes walkRes at hb
  rw [if_pos hg] at hb
  split at hb
  · simp at hb
  · split at hb
    · rename_i hf
      have := hin _ hf
      exact ⟨⟨by omega, by omega, walkGo_okI _ _ hb⟩, by omega⟩
    · simp at hb
theorem f9_is {lim : Nat} {H : Heap} (hM : lim ≤ H.next) (hi : Ints H ci il) (he : Eds H ce es) (hw : Wks H lc ps) : ∃ H', f9 (MM lim) n ci ce lc H = some (.c (.bool true), H') := by
  have hM' : (MM lim).lim ≤ H.next := hM
  rw [f9_eq, f10_out]
  simp -implicitDefEqProofs only [Option.bind_some, asC_c, asB_bool, Bool.not_true, Bool.false_eq_true, if_false, f16_is hi he]
  cases hfew : (decide (n ≤ 20) && decide (il.length ≤ 22) && decide (es.length ≤ 60)) with
  | false => exact ⟨H, rfl⟩
  | true =>
    simp -implicitDefEqProofs only [Bool.not_true, if_true, f30_is hw, Option.bind_some, asC_c, asB_bool]
    simp -implicitDefEqProofs only [Bool.and_eq_true, decide_eq_true_eq] at hfew
    cases hsh : shortL (ps.map Prod.fst) with
    | false => exact ⟨H, by simp⟩
    | true =>
      have hpl : ps.length ≤ 62 := by
        simp -implicitDefEqProofs only [shortL, Bool.and_eq_true, Bool.not_eq_true', Bool.or_eq_false_iff, decide_eq_false_iff_not, List.length_map] at hsh
        omega
      have hst : ∀ p ∈ ps, p.1.st.length ≤ 302 := fun p hp => by
        simp -implicitDefEqProofs only [shortL, Bool.and_eq_true, List.all_eq_true] at hsh
        have := hsh.2 p.1 (List.mem_map_of_mem hp)
        simp -implicitDefEqProofs only [shortOK, Bool.not_eq_true', Bool.or_eq_false_iff, decide_eq_false_iff_not] at this
        omega
      have hst' : ∀ rs : List (Wk × C), rs.map Prod.fst = ps.map Prod.fst → rs.length ≤ 62 ∧ ∀ p ∈ rs, p.1.st.length ≤ 302 := fun rs hr => by
        refine ⟨by have := congrArg List.length hr; simp at this; omega, fun p hp => ?_⟩
        have : p.1 ∈ ps.map Prod.fst := by rw [← hr]; exact List.mem_map_of_mem hp
        obtain ⟨q, hq, e⟩ := List.mem_map.1 this
        rw [← e]; exact hst q hq
      obtain ⟨c1, c2, H2, t1, t2, t3, t4⟩ := f18_is (M := MM lim) (n := n) hi he hM' (by omega) (by omega)
      obtain ⟨c3, H3, rs, u1, u2, u3, u4⟩ := f37_is (M := MM lim) (Nat.le_trans hM' t2.next) (hw.grow t2) (by omega) (fun p hp => by have := hst p hp; omega)
      have g3 := t2.trans u2
      obtain ⟨r1, r2⟩ := hst' rs u4
      obtain ⟨d0, d1, H4, v1, v2, v3, v4⟩ := f36_is (M := MM lim) (n := n) (Nat.le_trans hM' g3.next) (t3.grow u2) (t4.grow u2) (by omega) (by omega) u3 (by omega) (fun p hp => by have := r2 p hp; omega) (fun h => wErr_ok (by rw [u4]; exact hsh) h)
      have g4 := g3.trans v2
      obtain ⟨c4, c5, H5, w1, w2, w3, w4⟩ := f18_is (M := MM lim) (n := n) (hi.grow g4) (he.grow g4) (Nat.le_trans hM' g4.next) (by omega) (by omega)
      have g5 := g4.trans w2
      obtain ⟨c6, H6, qs, x1', x2', x3', x4'⟩ := f37_is (M := MM lim) (Nat.le_trans hM' g5.next) (hw.grow g5) (by omega) (fun p hp => by have := hst p hp; omega)
      have g6 := g5.trans x2'
      obtain ⟨q1, q2⟩ := hst' qs x4'
      obtain ⟨c7, H7, y1, y2, y3⟩ := f38_is (M := MM lim) (n := n) (Nat.le_trans hM' g6.next) (w3.grow x2') (w4.grow x2') (by omega) (by omega) x3' (by omega) (fun p hp => by have := q2 p hp; omega) (fun h => wErr_ok (by rw [x4']; exact hsh) h)
      have g7 := g6.trans y2
      obtain ⟨H8, z1, z2⟩ := f34_is (M := MM lim) (n := n) (hi.grow g7) (he.grow g7) (by omega) (by omega) (hw.grow g7) (by omega) (fun p hp => by have := hst p hp; omega)
      have g8 := g7.trans z2
      have hwe : (if isGraph n il es = true then (if 60 < ps.length then 2 else firstBad n il es (ps.map Prod.fst)) else 5) = wErr n il es (ps.map Prod.fst) := by unfold wErr; rw [List.length_map]
      rw [hwe] at z1
      rw [u4] at v1 v3 v4
      rw [x4'] at y1 y3
      have g78 : Grow H4 H8 := ((w2.trans x2').trans y2).trans z2
      have v3' := v3.grow g78
      have v4' := v4.grow g78
      have y3' := y3.grow z2
      simp -implicitDefEqProofs only [Bool.not_true, Bool.false_eq_true, if_false, t1, Option.bind_some, asA_agg, headC_cons, asI_int, List.drop_succ_cons, List.drop_zero, List.length_nil, if_true, u1, asC_c, v1, ext_tuple, List.getElem?_cons_zero, List.getElem?_cons_succ, w1, x1', y1, z1]
      by_cases hz : wErr n il es (ps.map Prod.fst) = 0
      rotate_left
      · rw [if_neg hz] at v3' v4' y3'
        refine ⟨H8, ?_⟩
        simp -implicitDefEqProofs only [hz, decide_false, Bool.not_false, if_true, decide_true, Option.bind_some, v3'.len, v4'.len, y3'.len]
        have hw0 : IntKind.wrap .i64 0 = 0 := wrap_in (by omega) (by omega)
        simp -implicitDefEqProofs only [List.length_nil, Int.ofNat_zero, Int.natCast_zero, Int.add_zero, hw0, decide_true]
      · rw [if_pos hz] at v3' v4' y3'
        have G : Ws n il es ps := wErr_ok hsh hz
        obtain ⟨hn, hes, hin, ge⟩ := isGraph_good G.g
        have hnn : ((n.toNat : Nat) : Int) = n := by omega
        obtain ⟨e0', e1', H9, k1, k2⟩ := f35_is (M := MM lim) (n := n) (ci := ci) (Nat.le_trans hM' g8.next) hn (he.grow g8) ge (by omega) (hw.grow g8) (fun p hp => ⟨(G.wi p hp).1, by have := (G.wi p hp).2; omega⟩) (by omega)
        have g9 := g8.trans k2.g
        obtain ⟨cu, H10, m1, m2, m3⟩ := f33_is (M := MM lim) (n := n) (Nat.le_trans hM' g9.next) hn (hi.grow g9) (by omega) (he.grow g9) ge (by omega) (hw.grow g9) (fun p hp => ⟨(G.wi p hp).1, by have := (G.wi p hp).2; omega⟩) (by omega)
        obtain ⟨cl, ctl⟩ := cov_length n.toNat es (ps.map Prod.fst)
        have f1 := f14_is (M := MM lim) (v3'.grow k2.g) k2.o0.ints (by rw [cl]; omega)
        have f2 := f14_is (M := MM lim) (v4'.grow k2.g) k2.o1.ints (by rw [ctl]; omega)
        have hul := unc_len (es := es) (far := distOf n il es) (T := (cov n.toNat es (ps.map Prod.fst)).2) es 0
        have m3' : Ints H10 cu (unc es (distOf n il es) (cov n.toNat es (ps.map Prod.fst)).2 0 es) := m3.ints
        have f3 := f14_is (M := MM lim) ((y3'.grow k2.g).grow m2) m3' (by omega)
        -- the sums
        have hfl := G.flat
        obtain ⟨s1, s2, s3, s4⟩ := covs_sum (N := n.toNat) (by rw [hnn]; exact ge) (ps.map Prod.fst) (List.replicate n.toNat 0, List.replicate es.length 0) (fun w hw => by
          obtain ⟨p, hp, rfl⟩ := List.mem_map.1 hw
          exact (G.wi p hp).1) (by simp) (by simp) (fun x hx => by rw [List.eq_of_mem_replicate hx]; omega) (fun x hx => by rw [List.eq_of_mem_replicate hx]; omega) (by rw [isum_zeros]; simp -implicitDefEqProofs only [List.length_map]; omega) (by rw [isum_zeros]; omega)
        rw [isum_zeros] at s1 s2
        have s1' : isum (cov n.toNat es (ps.map Prod.fst)).1 = (ps.length : Int) + ((ps.map Prod.fst).map Wk.st).flatten.length := by
          unfold cov; rw [s1, List.length_map]; omega
        have s2' : isum (cov n.toNat es (ps.map Prod.fst)).2 = (((ps.map Prod.fst).map Wk.st).flatten.length : Int) := by
          unfold cov; rw [s2]; omega
        have p1 := f9_1_is (M := MM lim) (lc := lc) (x1 := d1) ((v3'.grow k2.g).grow m2) (by rw [cl]; omega) s3 (by rw [s1']; omega) 0 _ 0 (Nat.zero_add _)
        have p2 := f9_2_is (M := MM lim) (lc := lc) (x0 := d0) ((v4'.grow k2.g).grow m2) (by rw [ctl]; omega) s4 (by rw [s2']; omega) ((hw.grow g9).grow m2).len (isum (cov n.toNat es (ps.map Prod.fst)).1) _ 0 (Nat.zero_add _)
        have e0 : ((0 : Nat) : Int) = 0 := rfl
        rw [e0, List.take_zero] at p1 p2
        have i0 : isum [] = 0 := rfl
        rw [i0] at p1 p2
        rw [p2] at p1
        have hfin : isum (cov n.toNat es (ps.map Prod.fst)).1 = IntKind.wrap .i64 ((ps.length : Int) + isum (cov n.toNat es (ps.map Prod.fst)).2) := by
          rw [wrap_in (by rw [s2']; omega) (by rw [s2']; omega), s1', s2']
        rw [decide_eq_true hfin] at p1
        refine ⟨H10, ?_⟩
        simp -implicitDefEqProofs only [hz, decide_true, Bool.not_true, Bool.false_eq_true, if_false, k1, Option.bind_some, asA_agg, headC_cons, List.drop_succ_cons, List.drop_zero, List.length_nil, if_true, f1, f2, asC_c, asB_bool, m1, f3]
        exact p1
end law
end Go.Proofs.Ytnnjklkfcleleaa.R
