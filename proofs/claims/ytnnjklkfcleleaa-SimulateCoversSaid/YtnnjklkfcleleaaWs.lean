/-
  CHAPTER 20: tours: extend; the steps that can be reached.
-/
import Derived.Test.YtnnjklkfcleleaaWr
namespace Go.Proofs.Ytnnjklkfcleleaa.R
open Go Go.Proofs.Ytnnjklkfcleleaa.Vm
set_option linter.unusedVariables false
set_option linter.unusedSimpArgs false
variable {M : Mach}

theorem Run.append {es : List E} : ∀ {s : Int} {r : List Int} {u : Int} {r' : List Int} {t : Int}, Run es s r u → Run es u r' t → Run es s (r ++ r') t
  | s, [], u, r', t, h, k => by
    have h : s = u := h
    subst h; exact k
  | s, j :: r, u, r', t, h, k => ⟨h.1, h.2.1, Run.append h.2.2 k⟩

theorem sub_len : ∀ (a b : List Int), a.Nodup → (∀ x ∈ a, x ∈ b) → a.length ≤ b.length
  | [], _, _, _ => Nat.zero_le _
  | y :: a, b, hn, h => by
    rw [List.nodup_cons] at hn
    have hy := h y (by simp)
    have := sub_len a (b.erase y) hn.2 fun x hx => (List.mem_erase_of_ne (fun e : x = y => hn.1 (by rw [← e]; exact hx))).2 (h x (by simp [hx]))
    rw [List.length_erase_of_mem hy] at this
    have : 0 < b.length := List.length_pos_of_mem hy
    simp only [List.length_cons]; omega
theorem Tr.lds {lim : Nat} {H : Heap} {p x : Nat} {n most : Int} {ci ce : C} (h : Tr lim H p x n most ci ce) :
    H.ld p 0 = some (.int .i64 n) ∧ H.ld p (0 + 1) = some ci ∧ H.ld p (0 + 1 + 1) = some ce ∧ H.ld p (0 + 2) = some ce ∧ H.ld p (0 + 3) = some (.map x) ∧ H.ld p (0 + 4) = some (.int .i64 most) := by
  simp [Heap.ld, h.get]

section ext
variable {Hb : Heap} {p x pw : Nat} {n most f : Int} {ci ce : C} {es : List E}
theorem f57_4_is (ht : Tr M.lim Hb p x n most ci ce) (hM : M.lim ≤ Hb.next) (he : Eds Hb ce es) {best : Int} (hok : okI es best) {cp : C} {P : List Int} (hP : P.length ≤ 100000) : ∀ (d k : Nat) (H : Heap) (os : List Int) (cw : C) (W : List Int), k + d = P.length → Mk Hb H x pw os f cw W → Ints H cp P → idOf cp ≠ some pw → (∀ i, idOf cw = some i → idOf cp ≠ some i) → W.length + d ≤ 1000000 →
    ∃ H' os' cw', f57_4 M (.ptr p 0) (.ptr pw 0) best cp (P.length : Int) (k : Int) H = f57_1 M (.ptr p 0) (.ptr pw 0) (toOf es best) H' ∧ Mk Hb H' x pw os' f cw' (W ++ P.drop k) ∧ (∀ j, j ∈ os' ↔ j ∈ os ∧ j ∉ P.drop k) := by
  intro d
  induction d with
  | zero =>
    intro k H os cw W hk h hp h1 h2 hl
    obtain ⟨q, a1, a2, a3⟩ := (he.growX h.g ht.xm).target2 hok
    obtain ⟨l1, l2, l3, l4, l5, l6⟩ := (ht.growX h.g ⟨_, h.map⟩).lds
    refine ⟨H, os, cw, ?_, by rw [List.drop_of_length_le (by omega)]; simpa using h, by rw [List.drop_of_length_le (by omega)]; simp⟩
    rw [f57_4_eq]
    simp only [show ¬ ((k : Int) < P.length) by omega, decide_false, Bool.false_eq_true, if_false, withP_ptr, l4, Option.bind_some, a1, a3, asI_int]
  | succ d ih =>
    intro k H os cw W hk h hp h1 h2 hl
    have hlt : k < P.length := by omega
    obtain ⟨q, a1, a2⟩ := hp.read (List.getElem?_eq_getElem hlt)
    obtain ⟨b1, b2, c', H1, H2, H3, b3, b4, b5, b6, b7, b8, b9⟩ := h.push ht hM P[k] (by omega)
    obtain ⟨g1, g2⟩ := b9 cp 1 _ hp h1 h2
    obtain ⟨H', os', cw', z1, z2, z3⟩ := ih (k + 1) H3 _ c' _ (by omega) b7 g1 h1 g2 (by simp; omega)
    refine ⟨H', os', cw', ?_, by rw [List.drop_eq_getElem_cons hlt]; simpa using z2, fun j => ?_⟩
    · rw [f57_4_eq]
      simp only [show ((k : Int) < P.length) by omega, decide_true, if_true, a1, a2, Option.bind_some, asI_int, withP_ptr, b1, b2, b3, b4, b5, b6, wrap_succ (show k ≤ 1000000000 by omega)]
      exact z1
    · rw [z3 j, List.drop_eq_getElem_cons hlt, h.nodup.mem_erase_iff, List.mem_cons]
      constructor
      · rintro ⟨⟨h1, h2⟩, h3⟩; exact ⟨h2, fun h => h.elim h1 h3⟩
      · rintro ⟨h1, h2⟩; exact ⟨⟨fun e => h2 (.inl e), h1⟩, fun h => h2 (.inr h)⟩

theorem f57_1_is {N : Nat} (ht : Tr M.lim Hb p x (N : Int) most ci ce) (hN : N ≤ 400) (hM : M.lim ≤ Hb.next) (he : Eds Hb ce es) (ge : goodE (N : Int) es) (hes : es.length ≤ 2000) (hmost : most ≤ 300) : ∀ (F : Nat) (H : Heap) (os : List Int) (at_ : Int) (cw : C) (W : List Int), os.length < F → Mk Hb H x pw os f cw W → 0 ≤ at_ → at_.toNat < N → (W.length : Int) ≤ most →
    ∃ H' os' cw' W' e, f57_1 M (.ptr p 0) (.ptr pw 0) at_ H = some (.tuple [], H') ∧ Mk Hb H' x pw os' f cw' (W ++ W') ∧ Run es at_ W' e ∧ (∀ j, j ∈ os' ↔ j ∈ os ∧ j ∉ W') ∧ ((W ++ W').length : Int) ≤ most ∧ (W' = [] ∨ ∃ Y z, W' = Y ++ [z] ∧ z ∈ os) := by
  intro F
  induction F with
  | zero => intro H os at_ cw W hF; omega
  | succ F ih =>
    intro H os at_ cw W hF h a0 a1 hW
    obtain ⟨l1, l2, l3, l4, l5, l6⟩ := (ht.growX h.g ⟨_, h.map⟩).lds
    have hMH : M.lim ≤ H.next := Nat.le_trans hM h.g.next
    have hlit := OInts.lit H (Nat.le_refl H.next) [at_] rfl (n := 1) rfl
    simp only [List.map_cons, List.map_nil] at hlit
    have g7 : Grow H (H.alloc (.cells 1 [.int .i64 at_])) := .alloc H _
    obtain ⟨d, b, K, V, hbfs, B⟩ := bfs_spec (N := N) (es := es) (l := [at_]) ge (fun s hs => by simp at hs; subst hs; exact ⟨a0, a1⟩) (by simp)
    obtain ⟨cd, cb, H8, b1, b2, b3, b4⟩ := f47_is (M := M) (n := (N : Int)) (ci := ci) (Nat.le_trans hMH g7.next) (by omega) ((he.growX h.g ht.xm).grow g7) ge hes hlit.ints (by simp) (fun s hs => by simp at hs; subst hs; omega) (F := N + 1) (by omega) hbfs
    have g8 := g7.trans b2
    have h8 := h.grow ht.xlt g8
    obtain ⟨m1, m2, m3, m4, m5, m6⟩ := (ht.growX h8.g ⟨_, h8.map⟩).lds
    have he8 := he.growX h8.g ht.xm
    have hsc := f57_2_scan (M := M) (cb := cb) h8 (ht.growX h8.g ⟨_, h8.map⟩) he8 ge (by omega) b3.ints B.dl es.length 0 (-1) (by omega) (.inl rfl)
    have hok := near_ok (os := os) (d := d) (es := es) 0 (-1) (by omega) (.inl rfl)
    have e0 : ((0 : Nat) : Int) = 0 := rfl
    rw [e0] at hsc
    generalize near os d es 0 (es.drop 0) (-1) = best at hsc hok
    rw [f57_1_eq]
    simp only [withP_ptr, l1, l2, l3, Option.bind_some, asI_int, b1, asA_agg, headC_cons, List.drop_succ_cons, List.drop_zero, List.length_nil, if_true, m4, he8.len, hsc]
    rw [f57_2_eq]
    simp only [show ¬ ((es.length : Int) < es.length) by omega, decide_false, Bool.false_eq_true, if_false]
    rcases hok with hb | ⟨hok, hbo, hbd⟩
    · refine ⟨H8, os, cw, [], at_, ?_, by simpa using h8, rfl, by simp, by simpa using hW, .inl rfl⟩
      simp only [hb, decide_true, Bool.true_eq_false, if_false, Option.bind_some, if_true]
    · have hne : ¬ best = -1 := fun e => by have := hok.1; omega
      obtain ⟨f0, f1⟩ := frOf_in ge hok
      obtain ⟨q41, c1, c2⟩ := he8.source hok
      obtain ⟨q44, d1, d2⟩ := b3.ints.readI f0 (getD_of (l := d) (by rw [B.dl]; exact f1) 0)
      have hwl : H8.ld pw (0 + 1) = some cw := by simp [Heap.ld, h8.get]
      have htV : frOf es best ∈ V := by
        by_cases hm : frOf es best ∈ V
        · exact hm
        · exact absurd (B.out _ f0 f1 hm) hbd
      obtain ⟨x0, r, p1, p2, p3⟩ := B.path (K (frOf es best)).length _ htV (Nat.le_refl _)
      have hx0 : x0 = at_ := by simpa using p1
      subst hx0
      have hdr : d.getD (frOf es best).toNat 0 = r.length := by rw [B.val _ htV, p2]; simp
      have hrl : r.length < N := by
        have := B.lt _ htV
        rw [p2] at this; simp at this; omega
      have hwr : IntKind.wrap .i64 (IntKind.wrap .i64 ((W.length : Int) + r.length) + 1) = (W.length : Int) + r.length + 1 := by
        rw [wrap_in (n := (W.length : Int) + r.length) (by omega) (by omega), wrap_in (by omega) (by omega)]
      simp only [hne, decide_false, if_true, withP_ptr, hwl, h8.st.ints.len, m4, c1, c2, d1, d2, m6, Option.bind_some, asI_int, hdr, hwr]
      by_cases hbig : most < (W.length : Int) + r.length + 1
      · refine ⟨H8, os, cw, [], x0, ?_, by simpa using h8, rfl, by simp, by simpa using hW, .inl rfl⟩
        simp only [hbig, decide_true, if_true]
      · obtain ⟨x1, r1, s1, s2⟩ := B.back (N + 1) _ [] htV (Nat.le_succ_of_le (B.lt _ htV))
        rw [p2] at s1
        obtain ⟨rfl, rfl⟩ := List.cons.inj s1
        obtain ⟨cr, H9, t1, t2, t3⟩ := f48_is (M := M) (n := (N : Int)) (ci := ci) (Nat.le_trans hMH g8.next) he8 b3.ints b4.ints B.dl B.bl B.hval (by omega) f0 f1 s2
        simp only [List.nil_append, List.reverse_reverse] at t1 t3
        obtain ⟨u1, cp, H10, u2, u3, u4, u5⟩ := t3.append1 (lim := M.lim) (Nat.le_trans hMH g8.next) best (by omega)
        have g10 : Grow H8 H10 := Own.kept_grow t3 t2 u4
        have h10 := h8.grow ht.xlt g10
        have hcp : ∀ i, idOf cp = some i → H8.next ≤ i := fun i hi => (Own.id u3 hi).1
        obtain ⟨H11, os1, cw1, v1, v2, v3⟩ := f57_4_is (M := M) (pw := pw) (f := f) ht hM he hok (cp := cp) (P := r ++ [best]) (by simp; omega) (r ++ [best]).length 0 H10 os cw W (by omega) h10 u3.ints (fun e => by have := hcp _ e; have := h8.plt; omega) (fun i h1 h2 => by have := hcp _ h2; have := (Own.id h8.st h1).2; omega) (by simp; omega)
        rw [e0] at v1
        rw [List.drop_zero] at v2 v3
        have hlt : os1.length < F := by
          have hsub : ∀ j ∈ os1, j ∈ os.erase best := fun j hj => by
            obtain ⟨k1, k2⟩ := (v3 j).1 hj
            rw [h.nodup.mem_erase_iff]
            exact ⟨fun e => k2 (by simp [e]), k1⟩
          have h1 : os1.length ≤ (os.erase best).length := sub_len _ _ v2.nodup hsub
          rw [List.length_erase_of_mem hbo] at h1
          have : 0 < os.length := List.length_pos_of_mem hbo
          omega
        obtain ⟨to0, to1⟩ := toOf_in ge hok
        have hWl : (((W ++ (r ++ [best])).length : Nat) : Int) ≤ most := by simp; omega
        obtain ⟨H', os', cw', W', e, w1, w2, w3, w4, w5, w6⟩ := ih H11 os1 (toOf es best) cw1 _ hlt v2 to0 to1 hWl
        refine ⟨H', os', cw', (r ++ [best]) ++ W', e, ?_, by simpa using w2, (p3.snoc hok rfl).append w3, fun j => ?_, by simpa using w5, .inr ?_⟩
        · simp only [hbig, decide_false, Bool.false_eq_true, if_false, withP_ptr, m4, Option.bind_some, c1, c2, asI_int, t1, ext_tuple, List.getElem?_cons_zero, List.getElem?_cons_succ, asC_c, u1, u2, u3.ints.len]
          rw [v1]; exact w1
        · rw [w4 j, v3 j]
          constructor
          · rintro ⟨⟨h1, h2⟩, h3⟩; exact ⟨h1, fun h => (List.mem_append.1 h).elim h2 h3⟩
          · rintro ⟨h1, h2⟩; exact ⟨⟨h1, fun h => h2 (List.mem_append.2 (.inl h))⟩, fun h => h2 (List.mem_append.2 (.inr h))⟩
        · rcases w6 with rfl | ⟨Y, z, rfl, hz⟩
          · exact ⟨r, best, by simp, hbo⟩
          · exact ⟨(r ++ [best]) ++ Y, z, by simp, ((v3 z).1 hz).1⟩
end ext

/-! ### the steps that can be reached -/
section reach
variable {n : Int} {ci ce cf : C} {es : List E} {H0 : Heap}
theorem unc_zero {far T : List Int} (hT : ∀ k, T.getD k 0 = 0) : ∀ (r : List E) (k : Nat), unc es far T k r = unc es far [] k r
  | [], k => rfl
  | e :: r, k => by
    simp only [unc, hT, unc_zero hT r]
    simp
theorem f56_1_is (hM : M.lim ≤ H0.next) {N : Nat} (he : Eds H0 ce es) (ge : goodE (N : Int) es) (hes : es.length ≤ 1000000) {far : List Int} (hf : Ints H0 cf far) (hfl : far.length = N) : ∀ (d k : Nat) (H : Heap) (out : C) (acc : List Int), k + d = es.length → Grow H0 H → OInts H H0.next out acc → acc.length ≤ k →
    ∃ c H', f56_1 M cf out ce (es.length : Int) (k : Int) H = some (.c c, H') ∧ Grow H0 H' ∧ OInts H' H0.next c (acc ++ unc es far [] k (es.drop k)) := by
  intro d
  induction d with
  | zero =>
    intro k H out acc hk g h hacc
    refine ⟨out, H, ?_, g, by rw [List.drop_of_length_le (by omega)]; simpa [unc] using h⟩
    rw [f56_1_eq]
    simp only [show ¬ ((k : Int) < es.length) by omega, decide_false, Bool.false_eq_true, if_false]
  | succ d ih =>
    intro k H out acc hk g h hacc
    have hlt : k < es.length := by omega
    obtain ⟨q, b1, b2, b3, b4⟩ := (he.grow g).read (List.getElem?_eq_getElem hlt)
    obtain ⟨⟨hf0, hf1⟩, _⟩ := ge _ (List.getElem_mem hlt)
    obtain ⟨q5, c1', c2'⟩ := (hf.grow g).readI hf0 (getD_of (l := far) (i := es[k].f.toNat) (by omega) 0)
    rw [f56_1_eq, List.drop_eq_getElem_cons hlt]
    simp only [show ((k : Int) < es.length) by omega, decide_true, if_true, b1, b2, b3, b4, Option.bind_some, asI_int, c1', c2', unc, List.getD_nil, and_true]
    by_cases hz : far.getD es[k].f.toNat 0 = -1
    · obtain ⟨c, H', i1, i2, i3⟩ := ih (k + 1) H out acc (by omega) g h (by omega)
      refine ⟨c, H', ?_, i2, by rw [if_neg (fun h => h hz)]; exact i3⟩
      simp only [hz, decide_true, Bool.not_true, Bool.false_eq_true, if_false]
      rw [f56_2_eq, wrap_succ (show k ≤ 1000000000 by omega)]; exact i1
    · obtain ⟨k1, c', H1, k2, k3, k4, k5⟩ := h.append1 (lim := M.lim) hM (k : Int) (by omega)
      obtain ⟨c, H', i1, i2, i3⟩ := ih (k + 1) H1 c' _ (by omega) (Own.kept_grow h g k4) k3 (by simp; omega)
      refine ⟨c, H', ?_, i2, by rw [if_pos hz]; simpa using i3⟩
      simp only [hz, decide_false, Bool.not_false, if_true, k1, k2, Option.bind_some]
      rw [f56_2_eq, wrap_succ (show k ≤ 1000000000 by omega)]; exact i1
theorem f56_is {H : Heap} (hM : M.lim ≤ H.next) {l d' b' : List Int} (hn : 0 ≤ n ∧ n ≤ 400) (he : Eds H ce es) (ge : goodE n es) (hes : es.length ≤ 2000) (hf : Ints H ci l) (hl : l.length ≤ 2000) (hin : ∀ s ∈ l, 0 ≤ s ∧ s < n) {F : Nat} (hF : F ≤ 800) (hb : bfs es F (far0 n.toNat l) = some (d', b')) (hdl : d'.length = n.toNat) :
    ∃ c H', f56 M n ci ce H = some (.c c, H') ∧ Grow H H' ∧ OInts H' H.next c (unc es d' [] 0 es) := by
  obtain ⟨cd, cb, H1, b1, b2, b3, b4⟩ := f47_is (M := M) hM (ci := ci) hn he ge hes hf hl hin hF hb
  have hnn : ((n.toNat : Nat) : Int) = n := by omega
  obtain ⟨c, H2, c1, c2, c3⟩ := f56_1_is (M := M) (N := n.toNat) (Nat.le_trans hM b2.next) (he.grow b2) (by rw [hnn]; exact ge) (by omega) b3.ints hdl es.length 0 H1 .nilSlice [] (by omega) (.refl _) (Own.nil (Nat.le_refl _) 1) (by simp)
  have e0 : ((0 : Nat) : Int) = 0 := rfl
  rw [e0] at c1
  refine ⟨c, H2, ?_, b2.trans c2, Own.low (by rw [List.nil_append, List.drop_zero] at c3; exact c3) b2.next⟩
  rw [f56_eq]
  simp only [b1, Option.bind_some, asA_agg, headC_cons, asI_int, List.drop_succ_cons, List.drop_zero, List.length_nil, if_true, he.len]
  exact c1
end reach
end Go.Proofs.Ytnnjklkfcleleaa.R
