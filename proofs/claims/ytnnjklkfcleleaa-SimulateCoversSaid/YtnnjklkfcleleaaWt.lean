/-
  CHAPTER 20: tours: the program's own.
-/
import Derived.Test.YtnnjklkfcleleaaWs
namespace Go.Proofs.Ytnnjklkfcleleaa.R
open Go Go.Proofs.Ytnnjklkfcleleaa.Vm
set_option linter.unusedVariables false
set_option linter.unusedSimpArgs false
variable {M : Mach}

/-! ### what a tour is -/
def isLast (st : List Int) (z : Int) : Prop := ∃ Y, st = Y ++ [z]
def okWalks (l : List Int) (es : List E) (most : Int) (ws : List Wk) : Prop :=
  ∀ (q : Nat) (w : Wk), ws[q]? = some w → w.f ∈ l ∧ (∃ e, Run es w.f w.st e) ∧ (w.st.length : Int) ≤ most ∧ ∃ z, isLast w.st z ∧ ∀ w' ∈ ws.take q, z ∉ w'.st
structure Tour (l : List Int) (es : List E) (most : Int) (all : List Int) (ws : List Wk) : Prop where
  ok : okWalks l es most ws
  few : ws.length ≤ all.length
  all : ∀ k ∈ all, ∃ w ∈ ws, k ∈ w.st
theorem okWalks.snoc {l : List Int} {es : List E} {most : Int} {ws : List Wk} (h : okWalks l es most ws) {w : Wk} (h1 : w.f ∈ l) (h2 : ∃ e, Run es w.f w.st e) (h3 : (w.st.length : Int) ≤ most) {z : Int} (h4 : isLast w.st z) (h5 : ∀ w' ∈ ws, z ∉ w'.st) : okWalks l es most (ws ++ [w]) := by
  intro q w0 hq
  by_cases hlt : q < ws.length
  · rw [List.getElem?_append_left hlt] at hq
    obtain ⟨a1, a2, a3, z, a4, a5⟩ := h q w0 hq
    exact ⟨a1, a2, a3, z, a4, by rw [List.take_append_of_le_length (by omega)]; exact a5⟩
  · rw [List.getElem?_append_right (by omega)] at hq
    have : q = ws.length := by
      have := (List.getElem?_eq_some_iff.1 hq).1
      simp at this; omega
    subst this
    simp only [Nat.sub_self, List.getElem?_cons_zero, Option.some.injEq] at hq
    subst hq
    exact ⟨h1, h2, h3, z, h4, by rw [List.take_append_of_le_length (Nat.le_refl _), List.take_length]; exact h5⟩

section tour
variable {p x : Nat} {n most : Int} {ci ce cd cb call : C} {es : List E} {l all d : List Int}

/-! ### the steps are opened -/
def tooFar (most : Int) (d : List Int) (es : List E) (i : Int) : Bool := decide (most ≤ d.getD (frOf es i).toNat 0)
theorem f32_1_is {Hb : Heap} {N : Nat} (ht : Tr M.lim Hb p x n most ci ce) (he : Eds Hb ce es) (ge : goodE (N : Int) es) (hd : Ints Hb cd d) (hdl : d.length = N) (ha : Ints Hb call all) (hal : all.length ≤ 1000000) (hall : ∀ i ∈ all, okI es i) (hnd : all.Nodup) : ∀ (m k : Nat) (H : Heap), k + m = all.length → GrowX x Hb H → H.get x = some (.map ((all.take k).map ent)) →
    ∃ H', GrowX x Hb H' ∧ (if (all.drop k).any (tooFar most d es) = true then f32_1 M most n ci ce n ci ce cd cb call (.ptr p 0) call (all.length : Int) (k : Int) H = some (.tuple [.c .nilSlice, .c (.int .i64 25)], H')
      else f32_1 M most n ci ce n ci ce cd cb call (.ptr p 0) call (all.length : Int) (k : Int) H = f32_2 M n ci ce n ci ce cd cb (.ptr p 0) .nilSlice call (all.length : Int) 0 H' ∧ H'.get x = some (.map (all.map ent))) := by
  intro m
  induction m with
  | zero =>
    intro k H hk g hm
    refine ⟨H, g, ?_⟩
    rw [List.drop_of_length_le (by omega)]
    simp only [List.any_nil, Bool.false_eq_true, if_false]
    refine ⟨?_, by rw [List.take_of_length_le (by omega)] at hm; exact hm⟩
    rw [f32_1_eq]
    simp only [show ¬ ((k : Int) < all.length) by omega, decide_false, Bool.false_eq_true, if_false, (Ints.growX ha g ht.xm).len, Option.bind_some]
  | succ m ih =>
    intro k H hk g hm
    have hlt : k < all.length := by omega
    obtain ⟨q, a1, a2⟩ := (Ints.growX ha g ht.xm).read (List.getElem?_eq_getElem hlt)
    have hok := hall _ (List.getElem_mem hlt)
    obtain ⟨q4, b1, b2⟩ := (he.growX g ht.xm).source hok
    obtain ⟨f0, f1⟩ := frOf_in ge hok
    obtain ⟨q7, c1, c2⟩ := (Ints.growX hd g ht.xm).readI f0 (getD_of (l := d) (by rw [hdl]; exact f1) 0)
    obtain ⟨l1, l2, l3, l4, l5, l6⟩ := (ht.growX g ⟨_, hm⟩).lds
    rw [f32_1_eq, List.drop_eq_getElem_cons hlt]
    simp only [show ((k : Int) < all.length) by omega, decide_true, if_true, a1, a2, b1, b2, c1, c2, Option.bind_some, asI_int, List.any_cons]
    by_cases hf : most ≤ d.getD (frOf es all[k]).toNat 0
    · refine ⟨H, g, ?_⟩
      simp only [tooFar, hf, decide_true, Bool.true_or, if_true]
    · have hset : Heap.mset M.lim H .int (.map x) (.int .i64 all[k]) (.c (.bool true)) = some (H.put x (.map ((all.take (k + 1)).map ent))) := by
        have hnot : all[k] ∉ all.take k := by
          have h2 : (all.take (k + 1)).Nodup := hnd.sublist (List.take_sublist _ _)
          rw [List.take_succ_eq_append_getElem hlt, List.nodup_append] at h2
          intro hin
          exact h2.2.2 _ hin _ (by simp) rfl
        simp only [Heap.mset, hm, setK_ent _ _ hnot, List.take_succ_eq_append_getElem hlt]
        rw [if_pos ht.lim]; rfl
      have g' : GrowX x Hb (H.put x (.map ((all.take (k + 1)).map ent))) := ⟨g.next, fun i hi hx => by rw [hput_other hx]; exact g.keep i hi hx⟩
      obtain ⟨H', z1, z2⟩ := ih (k + 1) _ (by omega) g' (put_same _ _ _)
      refine ⟨H', z1, ?_⟩
      have hff : tooFar most d es all[k] = false := decide_eq_false hf
      simp only [hff, Bool.false_or, hf, decide_false, Bool.false_eq_true, if_false, withP_ptr, l5, Option.bind_some, hset, wrap_succ (show k ≤ 1000000000 by omega)]
      exact z2

/-! ### one walk -/
theorem f32_3_is {Hk : Heap} {pw : Nat} {f i0 : Int} {out cl : C} {L j : Int} (ht : Tr M.lim Hk p x n most ci ce) (hM : M.lim ≤ Hk.next) (he : Eds Hk ce es) (hok : okI es i0) {cp : C} {P : List Int} (hP : P.length ≤ 100000) : ∀ (m k : Nat) (H : Heap) (os : List Int) (cw : C) (W : List Int), k + m = P.length → Mk Hk H x pw os f cw W → Ints H cp P → idOf cp ≠ some pw → (∀ i, idOf cw = some i → idOf cp ≠ some i) → W.length + m ≤ 1000000 →
    ∃ H' os' cw', f32_3 M n ci ce n ci ce cd cb (.ptr p 0) out i0 (.ptr pw 0) cl L j cp (P.length : Int) (k : Int) H = f32_3 M n ci ce n ci ce cd cb (.ptr p 0) out i0 (.ptr pw 0) cl L j cp (P.length : Int) (P.length : Int) H' ∧ Mk Hk H' x pw os' f cw' (W ++ P.drop k) ∧ (∀ j, j ∈ os' ↔ j ∈ os ∧ j ∉ P.drop k) := by
  intro m
  induction m with
  | zero =>
    intro k H os cw W hk h hp h1 h2 hl
    obtain rfl : k = P.length := by omega
    exact ⟨H, os, cw, rfl, by rw [List.drop_of_length_le (Nat.le_refl _)]; simpa using h, by rw [List.drop_of_length_le (Nat.le_refl _)]; simp⟩
  | succ d ih =>
    intro k H os cw W hk h hp h1 h2 hl
    have hlt : k < P.length := by omega
    obtain ⟨q, a1, a2⟩ := hp.read (List.getElem?_eq_getElem hlt)
    obtain ⟨b1, b2, c', H1, H2, H3, b3, b4, b5, b6, b7, b8, b9⟩ := h.push ht hM P[k] (by omega)
    obtain ⟨g1, g2⟩ := b9 cp 1 _ hp h1 h2
    obtain ⟨H', os', cw', z1, z2, z3⟩ := ih (k + 1) H3 _ c' _ (by omega) b7 g1 h1 g2 (by simp; omega)
    refine ⟨H', os', cw', ?_, by rw [List.drop_eq_getElem_cons hlt]; simpa using z2, fun j => ?_⟩
    · rw [f32_3_eq]
      simp only [show ((k : Int) < P.length) by omega, decide_true, if_true, a1, a2, Option.bind_some, asI_int, asP_ptr, withP_ptr, b1, b2, b3, b4, b5, b6, wrap_succ (show k ≤ 1000000000 by omega)]
      exact z1
    · rw [z3 j, List.drop_eq_getElem_cons hlt, h.nodup.mem_erase_iff, List.mem_cons]
      constructor
      · rintro ⟨⟨h1, h2⟩, h3⟩; exact ⟨h2, fun h => h.elim h1 h3⟩
      · rintro ⟨h1, h2⟩; exact ⟨⟨fun e => h2 (.inl e), h1⟩, fun h => h2 (.inr h)⟩

/-! ### all walks -/
structure TI (Hb Hk : Heap) (x : Nat) (out : C) (ps : List (Wk × C)) (os : List Int) : Prop where
  g : GrowX x Hb Hk
  map : Hk.get x = some (.map (os.map ent))
  nodup : os.Nodup
  own : Own Hk Hb.next out 3 (ps.map rowW)
  each : ∀ p ∈ ps, Ints Hk p.2 p.1.st ∧ ∀ i, idOf p.2 = some i → idOf out ≠ some i
theorem f32_2_is {Hb : Heap} {N : Nat} {V b : List Int} {K : Int → List Int} (ht : Tr M.lim Hb p x (N : Int) most ci ce) (hN : N ≤ 400) (hM : M.lim ≤ Hb.next) (he : Eds Hb ce es) (ge : goodE (N : Int) es) (hes : es.length ≤ 2000) (hmost : most ≤ 300)
    (B : BI N es l (fun u _ => u ∈ V) V K d b) (hd : Ints Hb cd d) (hb : Ints Hb cb b) (ha : Ints Hb call all) (hal : all.length ≤ 60) (hall : ∀ i ∈ all, okI es i ∧ d.getD (frOf es i).toNat 0 ≠ -1) (hfar : all.any (tooFar most d es) = false) : ∀ (m j : Nat) (Hk : Heap) (out : C) (ps : List (Wk × C)) (os : List Int), j + m = all.length → TI Hb Hk x out ps os →
    (∀ k, k ∈ os ↔ k ∈ all ∧ ∀ p ∈ ps, k ∉ p.1.st) → okWalks l es most (ps.map Prod.fst) → ps.length ≤ j → (∀ k ∈ all.take j, k ∉ os) →
    ∃ c H' ps', f32_2 M (N : Int) ci ce (N : Int) ci ce cd cb (.ptr p 0) out call (all.length : Int) (j : Int) Hk = some (.tuple [.c c, .c (.int .i64 0)], H') ∧ GrowX x Hb H' ∧ Wks H' c ps' ∧ Own H' Hb.next c 3 (ps'.map rowW) ∧ Tour l es most all (ps'.map Prod.fst) := by
  intro m
  induction m with
  | zero =>
    intro j Hk out ps os hj h p1 p2 p3 p4
    refine ⟨out, Hk, ps, ?_, h.g, ⟨h.own.sl, fun p hp => (h.each p hp).1⟩, h.own, ⟨p2, by simp; omega, fun k hk => ?_⟩⟩
    · have hlen : C.len out = some ps.length := by have := h.own.sl.len; simpa using this
      rw [f32_2_eq]
      simp only [show ¬ ((j : Int) < all.length) by omega, decide_false, Bool.false_eq_true, if_false, hlen, Option.bind_some, show ¬ ((60 : Int) < ps.length) by omega]
    · have hno := p4 k (by rw [List.take_of_length_le (by omega)]; exact hk)
      by_cases hex : ∃ w ∈ ps.map Prod.fst, k ∈ w.st
      · exact hex
      · exact absurd ((p1 k).2 ⟨hk, fun p hp hin => hex ⟨p.1, List.mem_map_of_mem hp, hin⟩⟩) hno
  | succ m ih =>
    intro j Hk out ps os hj h p1 p2 p3 p4
    have hlt : j < all.length := by omega
    have tk := ht.growX h.g ⟨_, h.map⟩
    obtain ⟨q, a1, a2⟩ := (Ints.growX ha h.g ht.xm).read (List.getElem?_eq_getElem hlt)
    obtain ⟨l1, l2, l3, l4, l5, l6⟩ := tk.lds
    have hgm : Heap.getMap Hk (.map x) = some (os.map ent) := by simp [Heap.getMap, h.map]
    have htake : ∀ {os' : List Int}, (∀ k ∈ os', k ∈ os) → all[j] ∉ os' → ∀ k ∈ all.take (j + 1), k ∉ os' := fun hsub hnot k hk => by
      rw [List.take_succ_eq_append_getElem hlt] at hk
      rcases List.mem_append.1 hk with hk | hk
      · exact fun hin => p4 k hk (hsub k hin)
      · have : k = all[j] := by simpa using hk
        subst this; exact hnot
    rw [f32_2_eq]
    simp only [show ((j : Int) < all.length) by omega, decide_true, if_true, a1, a2, Option.bind_some, asI_int, withP_ptr, l5, hgm, findK_ent]
    by_cases hm : all[j] ∈ os
    rotate_left
    · obtain ⟨c, H', ps', z1, z2⟩ := ih (j + 1) Hk out ps os (by omega) h p1 p2 (by omega) (htake (fun _ h => h) hm)
      refine ⟨c, H', ps', ?_, z2⟩
      simp only [hm, if_false, Option.getD_none, asC_c, asB_bool, Option.bind_some, Bool.not_false, if_true, wrap_succ (show j ≤ 1000000000 by omega)]
      exact z1
    · obtain ⟨hok, hne⟩ := hall _ (List.getElem_mem hlt)
      have hek := he.growX h.g ht.xm
      have hMk : M.lim ≤ Hk.next := Nat.le_trans hM h.g.next
      obtain ⟨q11, b1, b2, b3⟩ := hek.target2 hok
      obtain ⟨f0, f1⟩ := frOf_in ge hok
      have htV : frOf es all[j] ∈ V := by
        by_cases hv : frOf es all[j] ∈ V
        · exact hv
        · exact absurd (B.out _ f0 f1 hv) hne
      obtain ⟨x0, r, r1, r2, r3⟩ := B.path (K (frOf es all[j])).length _ htV (Nat.le_refl _)
      have hdr : d.getD (frOf es all[j]).toNat 0 = r.length := by rw [B.val _ htV, r2]; simp
      have hnf : ¬ most ≤ d.getD (frOf es all[j]).toNat 0 := fun hle => by
        have : all.any (tooFar most d es) = true := List.any_eq_true.2 ⟨_, List.getElem_mem hlt, decide_eq_true hle⟩
        rw [this] at hfar; cases hfar
      have hrl : r.length < N := by
        have := B.lt _ htV
        rw [r2] at this; simp at this; omega
      obtain ⟨x1, r1', s1, s2⟩ := B.back (N + 1) _ [] htV (Nat.le_succ_of_le (B.lt _ htV))
      rw [r2] at s1
      obtain ⟨rfl, rfl⟩ := List.cons.inj s1
      obtain ⟨cr, Hp, t1, t2, t3⟩ := f48_is (M := M) (n := (N : Int)) (ci := ci) hMk hek (Ints.growX hd h.g ht.xm) (Ints.growX hb h.g ht.xm) B.dl B.bl B.hval (by omega) f0 f1 s2
      simp only [List.nil_append, List.reverse_reverse] at t1 t3
      -- the walk's own object
      have hst : Heap.st M.lim (Hp.alloc (.cells 3 [.int .i64 0, .nilSlice, .bool false])) Hp.next 0 [.int .i64 x0, .nilSlice, .bool false] = some ((Hp.alloc (.cells 3 [.int .i64 0, .nilSlice, .bool false])).put Hp.next (.cells 3 [.int .i64 x0, .nilSlice, .bool false])) := by
        simp only [Heap.st, alloc_new]
        rw [if_pos ⟨Nat.le_trans hMk t2.next, by simp⟩]
        rfl
      generalize hH21 : (Hp.alloc (.cells 3 [.int .i64 0, .nilSlice, .bool false])).put Hp.next (.cells 3 [.int .i64 x0, .nilSlice, .bool false]) = H21 at hst
      have g21 : Grow Hp H21 := by
        subst hH21
        exact ⟨by simp, fun i hi => by rw [hput_other (by omega), alloc_old hi]⟩
      have n21 : H21.next = Hp.next + 1 := by subst hH21; rfl
      have w21 : H21.get Hp.next = some (.cells 3 [.int .i64 x0, .nilSlice, .bool false]) := by subst hH21; exact put_same _ _ _
      obtain ⟨u1, cp, H24, u2, u3, u4, u5⟩ := (t3.grow g21).append1 (lim := M.lim) hMk all[j] (by omega)
      have g24 : Grow Hk H24 := Own.kept_grow (t3.grow g21) (t2.trans g21) u4
      have hxk : x < Hk.next := Nat.lt_of_lt_of_le ht.xlt h.g.next
      have hcr : ∀ i, idOf cr = some i → i < Hp.next := fun i hi => (Own.id t3 hi).2
      have mk0 : Mk Hk H24 x Hp.next os x0 .nilSlice [] := by
        refine ⟨⟨g24.next, fun i hi _ => g24.keep i hi⟩, by rw [g24.keep x hxk]; exact h.map, h.nodup, t2.next, by have := u4.next; omega, ?_, Own.nil g24.next 1, by simp [idOf]⟩
        rw [u4.keep Hp.next (by omega) (fun o m e => by have := hcr Hp.next (by rw [e]; rfl); omega)]
        exact w21
      obtain ⟨H1, os1, cw1, v1, v2, v3⟩ := f32_3_is (M := M) (cd := cd) (cb := cb) (out := out) (cl := call) (L := (all.length : Int)) (j := (j : Int)) tk hMk hek hok (cp := cp) (P := r ++ [all[j]]) (by simp; omega) (r ++ [all[j]]).length 0 H24 os .nilSlice [] (by omega) mk0 u3.ints (fun e => by
        rcases u5 with h5 | ⟨i5, o5, n5, h5, h6⟩
        · rw [h5] at e; cases e
        · rw [h5] at e; cases e; omega) (fun i h1 => by cases h1) (by simp; omega)
      have e0 : ((0 : Nat) : Int) = 0 := rfl
      rw [e0] at v1
      rw [List.drop_zero, List.nil_append] at v2
      rw [List.drop_zero] at v3
      obtain ⟨to0, to1⟩ := toOf_in ge hok
      obtain ⟨q15, c1, c2, c3⟩ := (hek.growX v2.g tk.xm).target2 hok
      obtain ⟨H2, os2, cw2, W', e, w1, w2, w3, w4, w5, w6⟩ := f57_1_is (M := M) tk hN hMk hek ge hes hmost (os1.length + 1) H1 os1 (toOf es all[j]) cw1 _ (by omega) v2 to0 to1 (by simp; omega)
      have gk2 : GrowX x Hb H2 := h.g.trans w2.g
      obtain ⟨y1, c', H3, y2, y3, y4, y5⟩ := (Own.growX h.own w2.g ⟨_, h.map⟩).append1 (lim := M.lim) hM (r := rowW (⟨x0, (r ++ [all[j]]) ++ W', false⟩, cw2)) rfl (by simp; omega)
      have hout : ∀ i, idOf out = some i → Hb.next ≤ i ∧ i < Hk.next := fun i hi => Own.id h.own hi
      have hnew : ∀ i, idOf c' = some i → H2.next ≤ i := fun i hi => by
        rcases y5 with rfl | ⟨j', o', n', rfl, hj'⟩
        · cases hi
        · cases hi; exact hj'
      have hti : TI Hb H3 x c' (ps ++ [(⟨x0, (r ++ [all[j]]) ++ W', false⟩, cw2)]) os2 := by
        refine ⟨⟨Nat.le_trans gk2.next y4.next, fun i hi hx => ?_⟩, ?_, w2.nodup, by rw [List.map_append]; exact y3, fun p0 hp0 => ?_⟩
        · rw [y4.keep i (Nat.lt_of_lt_of_le hi gk2.next) (fun o m e => by have := (hout i (by rw [e]; rfl)).1; omega)]
          exact gk2.keep i hi hx
        · rw [y4.keep x (Nat.lt_of_lt_of_le hxk w2.g.next) (fun o m e => by have := (hout x (by rw [e]; rfl)).1; have := ht.xlt; omega)]
          exact w2.map
        · rcases List.mem_append.1 hp0 with hp0 | hp0
          · obtain ⟨k1, k2⟩ := h.each p0 hp0
            refine ⟨(Ints.growX k1 w2.g ⟨_, h.map⟩).kept y4 (apart_of fun i h1 h2 => k2 i h2 h1), fun i h1 h2 => ?_⟩
            have := hnew i h2; have := Sl.id k1 h1; have := w2.g.next; omega
          · have hp1 : p0 = (⟨x0, (r ++ [all[j]]) ++ W', false⟩, cw2) := by simpa using hp0
            subst hp1
            refine ⟨w2.st.ints.kept y4 (apart_of fun i h1 h2 => ?_), fun i h1 h2 => ?_⟩
            · have := (hout i h1).2; have := (Own.id w2.st h2).1; omega
            · have := hnew i h2; have := (Own.id w2.st h1).2; omega
      have hos2 : ∀ k, k ∈ os2 ↔ k ∈ os ∧ k ∉ (r ++ [all[j]]) ++ W' := fun k => by
        rw [w4 k, v3 k]
        constructor
        · rintro ⟨⟨h1, h2⟩, h3⟩; exact ⟨h1, fun h => (List.mem_append.1 h).elim h2 h3⟩
        · rintro ⟨h1, h2⟩; exact ⟨⟨h1, fun h => h2 (List.mem_append.2 (.inl h))⟩, fun h => h2 (List.mem_append.2 (.inr h))⟩
      obtain ⟨c, H', ps', z1, z2⟩ := ih (j + 1) H3 c' _ os2 (by omega) hti (fun k => by
          rw [hos2 k, p1 k]
          constructor
          · rintro ⟨⟨h1, h2⟩, h3⟩
            refine ⟨h1, fun p0 hp0 => ?_⟩
            rcases List.mem_append.1 hp0 with hp0 | hp0
            · exact h2 p0 hp0
            · have hp1 : p0 = (⟨x0, (r ++ [all[j]]) ++ W', false⟩, cw2) := by simpa using hp0
              subst hp1; exact h3
          · rintro ⟨h1, h2⟩
            exact ⟨⟨h1, fun p0 hp0 => h2 p0 (List.mem_append.2 (.inl hp0))⟩, h2 _ (List.mem_append.2 (.inr (List.mem_singleton.2 rfl)))⟩)
        (by
          have hno : ∀ z, z ∈ os → ∀ w' ∈ ps.map Prod.fst, z ∉ w'.st := fun z hz w' hw' => by
            obtain ⟨p0, hp0, rfl⟩ := List.mem_map.1 hw'
            exact ((p1 z).1 hz).2 p0 hp0
          rw [List.map_append]
          rcases w6 with rfl | ⟨Y, z, rfl, hz⟩
          · exact p2.snoc (z := all[j]) r1 ⟨_, (r3.snoc hok rfl).append w3⟩ w5 ⟨r, by simp⟩ (hno _ hm)
          · exact p2.snoc (z := z) r1 ⟨_, (r3.snoc hok rfl).append w3⟩ w5 ⟨(r ++ [all[j]]) ++ Y, by simp⟩ (hno _ ((v3 z).1 hz).1))
        (by simp; omega) (htake (fun k hk => ((hos2 k).1 hk).1) (fun hin => ((hos2 _).1 hin).2 (by simp)))
      refine ⟨c, H', ps', ?_, z2⟩
      have d1 : H2.ld Hp.next 0 = some (.int .i64 x0) := by simp [Heap.ld, w2.get]
      have d2 : H2.ld Hp.next (0 + 1) = some cw2 := by simp [Heap.ld, w2.get]
      have d3 : H2.ld Hp.next (0 + 1 + 1) = some (.bool false) := by simp [Heap.ld, w2.get]
      simp only [hm, if_true, Option.getD_some, asC_c, asB_bool, Option.bind_some, Bool.not_true, Bool.false_eq_true, if_false, b1, b2, asI_int, t1, ext_tuple, List.getElem?_cons_zero, List.getElem?_cons_succ, hst, u1, u2, u3.ints.len, v1]
      rw [f32_3_eq]
      simp only [show ¬ (((r ++ [all[j]]).length : Int) < (r ++ [all[j]]).length) by omega, decide_false, Bool.false_eq_true, if_false, c1, c3, Option.bind_some, asI_int, f57_eq, w1, asP_ptr, d1, d2, d3, asB_bool]
      unfold rowW at y1 y2
      simp only [y1, y2, Option.bind_some, wrap_succ (show j ≤ 1000000000 by omega)]
      exact z1
end tour
end Go.Proofs.Ytnnjklkfcleleaa.R
