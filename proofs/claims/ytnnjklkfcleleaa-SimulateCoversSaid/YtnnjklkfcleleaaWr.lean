/-
  CHAPTER 20: tours: the map of open steps, the walk that is made; a walk is extended.
-/
import Derived.Test.YtnnjklkfcleleaaWq
namespace Go.Proofs.Ytnnjklkfcleleaa.R
open Go Go.Proofs.Ytnnjklkfcleleaa.Vm
set_option linter.unusedVariables false
set_option linter.unusedSimpArgs false
variable {M : Mach}

/-! ### sets of numbers in a map -/
def ent (k : Int) : C × V := (.int .i64 k, .c (.bool true))
theorem findK_ent (k : Int) : ∀ os : List Int, findK .int (.int .i64 k) (os.map ent) = some (if k ∈ os then some (.c (.bool true)) else none)
  | [] => by simp [findK]
  | o :: os => by
    have := findK_ent k os
    simp only [List.map_cons, ent, findK, sameKey, if_true, Option.bind_some]
    by_cases e : k = o
    · subst e; simp
    · have e2 : (k == o) = false := by simpa using e
      simp only [e2, Bool.false_eq_true, if_false, List.mem_cons, e, false_or]
      exact this
theorem setK_ent (k : Int) : ∀ os : List Int, k ∉ os → setK .int (.int .i64 k) (.c (.bool true)) (os.map ent) = some ((os ++ [k]).map ent)
  | [], _ => rfl
  | o :: os, h => by
    have := setK_ent k os fun hm => h (by simp [hm])
    have e2 : (k == o) = false := by
      have : k ≠ o := fun e => h (by simp [e])
      simpa using this
    simp only [List.map_cons, List.cons_append, ent, setK, sameKey, if_true, Option.bind_some, e2, Bool.false_eq_true, if_false]
    rw [this]; rfl
theorem delK_ent (k : Int) : ∀ os : List Int, delK .int (.int .i64 k) (os.map ent) = some ((os.erase k).map ent)
  | [] => rfl
  | o :: os => by
    have := delK_ent k os
    simp only [List.map_cons, ent, delK, sameKey, if_true, Option.bind_some]
    by_cases e : k = o
    · subst e; simp [ent]
    · have e2 : (k == o) = false := by simpa using e
      have e3 : (o == k) = false := by simpa using fun h : o = k => e h.symm
      simp only [e2, Bool.false_eq_true, if_false, List.erase_cons, e3]
      rw [this]; rfl

/-! ### all but one object -/
structure GrowX (x : Nat) (H H' : Heap) : Prop where
  next : H.next ≤ H'.next
  keep : ∀ i, i < H.next → i ≠ x → H'.get i = H.get i
theorem GrowX.refl (x : Nat) (H : Heap) : GrowX x H H := ⟨Nat.le_refl _, fun _ _ _ => rfl⟩
theorem GrowX.trans {x : Nat} {H H' H'' : Heap} (h : GrowX x H H') (k : GrowX x H' H'') : GrowX x H H'' :=
  ⟨Nat.le_trans h.next k.next, fun i hi hx => (k.keep i (Nat.lt_of_lt_of_le hi h.next) hx).trans (h.keep i hi hx)⟩
theorem GrowX.grow {x : Nat} {H H' H'' : Heap} (h : GrowX x H H') (k : Grow H' H'') : GrowX x H H'' :=
  ⟨Nat.le_trans h.next k.next, fun i hi hx => (k.keep i (Nat.lt_of_lt_of_le hi h.next)).trans (h.keep i hi hx)⟩
def IsMap (H : Heap) (x : Nat) : Prop := ∃ es, H.get x = some (.map es)
theorem Sl.growX {x : Nat} {H H' : Heap} {c : C} {sz : Nat} {rows : List (List C)} (h : Sl H c sz rows) (g : GrowX x H H') (hx : IsMap H x) : Sl H' c sz rows :=
  ⟨h.1, h.2.imp id fun ⟨i, o, z, cs, h1, h2, h3, h4⟩ => ⟨i, o, z, cs, h1, Nat.lt_of_lt_of_le h2 g.next, by
    rw [g.keep i h2 (fun e => by obtain ⟨es, hx⟩ := hx; rw [e, hx] at h3; cases h3)]; exact h3, h4⟩⟩
theorem Ints.growX {x : Nat} {H H' : Heap} {c : C} {l : List Int} (h : Ints H c l) (g : GrowX x H H') (hx : IsMap H x) : Ints H' c l := Sl.growX h g hx
theorem Eds.growX {x : Nat} {H H' : Heap} {c : C} {l : List E} (h : Eds H c l) (g : GrowX x H H') (hx : IsMap H x) : Eds H' c l := Sl.growX h g hx
theorem Own.growX {x : Nat} {H H' : Heap} {b : Nat} {c : C} {sz : Nat} {rows : List (List C)} (h : Own H b c sz rows) (g : GrowX x H H') (hx : IsMap H x) : Own H' b c sz rows :=
  ⟨Nat.le_trans h.1 g.next, h.2.1, h.2.2.imp id fun ⟨i, o, cs, h1, h2, h3, h4, h5⟩ => ⟨i, o, cs, h1, h2, Nat.lt_of_lt_of_le h3 g.next, by
    rw [g.keep i h3 (fun e => by obtain ⟨es, hx⟩ := hx; rw [e, hx] at h4; cases h4)]; exact h4, h5⟩⟩

/-! ### the walk that is made -/
/-- the tour: p bears the graph, the map x, and how many steps a walk may have -/
structure Tr (lim : Nat) (H : Heap) (p x : Nat) (n most : Int) (ci ce : C) : Prop where
  lt : p < H.next
  get : H.get p = some (.cells 5 [.int .i64 n, ci, ce, .map x, .int .i64 most])
  xlt : x < H.next
  xm : IsMap H x
  lim : lim ≤ x
theorem Tr.growX {lim : Nat} {H H' : Heap} {p x : Nat} {n most : Int} {ci ce : C} (h : Tr lim H p x n most ci ce) (g : GrowX x H H') (hm : IsMap H' x) : Tr lim H' p x n most ci ce :=
  ⟨Nat.lt_of_lt_of_le h.lt g.next, by
    rw [g.keep p h.lt (fun e => by obtain ⟨es, hx⟩ := h.xm; rw [← e, h.get] at hx; cases hx)]; exact h.get, Nat.lt_of_lt_of_le h.xlt g.next, hm, h.lim⟩
/-- from the heap Hb on only the map was changed; a walk is at pw -/
structure Mk (Hb H : Heap) (x pw : Nat) (os : List Int) (f : Int) (cw : C) (W : List Int) : Prop where
  g : GrowX x Hb H
  map : H.get x = some (.map (os.map ent))
  nodup : os.Nodup
  low : Hb.next ≤ pw
  plt : pw < H.next
  get : H.get pw = some (.cells 3 [.int .i64 f, cw, .bool false])
  st : OInts H Hb.next cw W
  ap : idOf cw ≠ some pw
theorem Mk.grow {Hb H H' : Heap} {x pw : Nat} {os : List Int} {f : Int} {cw : C} {W : List Int} (h : Mk Hb H x pw os f cw W) (hx : x < Hb.next) (g : Grow H H') : Mk Hb H' x pw os f cw W :=
  ⟨h.g.grow g, by rw [g.keep x (Nat.lt_of_lt_of_le hx h.g.next)]; exact h.map, h.nodup, h.low, Nat.lt_of_lt_of_le h.plt g.next, by rw [g.keep pw h.plt]; exact h.get, h.st.grow g, h.ap⟩
theorem Mk.push {Hb H : Heap} {x pw p : Nat} {os : List Int} {f n most : Int} {cw ci ce : C} {W : List Int} (h : Mk Hb H x pw os f cw W) (ht : Tr M.lim Hb p x n most ci ce) (hM : M.lim ≤ Hb.next) (k : Int) (hroom : W.length + 1 ≤ 2 ^ 36) :
    H.ld pw (0 + 1) = some cw ∧ Heap.cellsOf (H.alloc (.cells 1 [.int .i64 k])) 1 (.slice H.next 0 1) = some [.int .i64 k] ∧ ∃ c' H1 H2 H3, Heap.app M.lim (H.alloc (.cells 1 [.int .i64 k])) 1 cw [.int .i64 k] 1 = some (c', H1) ∧
      Heap.st M.lim H1 pw (0 + 1) [c'] = some H2 ∧ H2.ld p (0 + 3) = some (.map x) ∧ Heap.mdel M.lim H2 .int (.map x) (.int .i64 k) = some H3 ∧ Mk Hb H3 x pw (os.erase k) f c' (W ++ [k]) ∧ H.next ≤ H3.next ∧
      (∀ c sz rows, Sl H c sz rows → idOf c ≠ some pw → (∀ i, idOf cw = some i → idOf c ≠ some i) → Sl H3 c sz rows ∧ (∀ i, idOf c' = some i → idOf c ≠ some i)) := by
  obtain ⟨k1, c', H1, k2, k3, k4, k5⟩ := h.st.append1 (lim := M.lim) hM k hroom
  have hnew : ∀ i, idOf c' = some i → H.next ≤ i := fun i hi => by
    rcases k5 with rfl | ⟨j, o, n, rfl, hj⟩
    · cases hi
    · cases hi; exact hj
  have hxb : x ≠ pw := by have := ht.xlt; have := h.low; omega
  have hxH : x < H.next := Nat.lt_of_lt_of_le ht.xlt h.g.next
  have kx : H1.get x = H.get x := k4.keep x hxH fun o m e => by have := (Own.id h.st (i := x) (by rw [e]; rfl)).1; have := ht.xlt; omega
  have kp : H1.get pw = H.get pw := k4.keep pw h.plt fun o m e => h.ap (by rw [e]; rfl)
  have hpx : p ≠ x := fun e => by obtain ⟨es, hx⟩ := ht.xm; rw [← e, ht.get] at hx; cases hx
  have hpH : p < H.next := Nat.lt_of_lt_of_le ht.lt h.g.next
  have kt : H1.get p = H.get p := k4.keep p hpH fun o m e => by have := (Own.id h.st (i := p) (by rw [e]; rfl)).1; have := ht.lt; omega
  have hst : Heap.st M.lim H1 pw (0 + 1) [c'] = some (H1.put pw (.cells 3 [.int .i64 f, c', .bool false])) := by
    simp only [Heap.st, kp, h.get]
    rw [if_pos ⟨Nat.le_trans hM h.low, by simp⟩]
    rfl
  have hpp : p ≠ pw := by have := ht.lt; have := h.low; omega
  have hld : (H1.put pw (.cells 3 [.int .i64 f, c', .bool false])).ld p (0 + 3) = some (.map x) := by
    have : (H1.put pw (.cells 3 [.int .i64 f, c', .bool false])).get p = some (.cells 5 [.int .i64 n, ci, ce, .map x, .int .i64 most]) := by
      rw [hput_other hpp, kt, h.g.keep p ht.lt hpx]; exact ht.get
    simp [Heap.ld, this]
  have hmd : Heap.mdel M.lim (H1.put pw (.cells 3 [.int .i64 f, c', .bool false])) .int (.map x) (.int .i64 k) = some ((H1.put pw (.cells 3 [.int .i64 f, c', .bool false])).put x (.map ((os.erase k).map ent))) := by
    simp only [Heap.mdel, hput_other hxb, kx, h.map, delK_ent]
    rw [if_pos ht.lim]; rfl
  have hold : ∀ i, i < H.next → i ≠ x → i ≠ pw → (∀ o m, cw ≠ .slice i o m) → ((H1.put pw (.cells 3 [.int .i64 f, c', .bool false])).put x (.map ((os.erase k).map ent))).get i = H.get i := fun i hi h1 h2 h3 => by
    rw [hput_other h1, hput_other h2, k4.keep i hi h3]
  refine ⟨by simp [Heap.ld, h.get], k1, c', H1, _, _, k2, hst, hld, hmd, ⟨⟨Nat.le_trans h.g.next k4.next, fun i hi hx => ?_⟩, put_same _ _ _, h.nodup.erase k, h.low, Nat.lt_of_lt_of_le h.plt k4.next, ?_, ?_, fun e => ?_⟩, k4.next, fun c sz rows hs h1 h2 => ⟨⟨hs.1, hs.2.imp id fun ⟨i, o, z, cs, g1, g2, g3, g4⟩ => ?_⟩, fun i hi hic => ?_⟩⟩
  · rw [hold i (Nat.lt_of_lt_of_le hi h.g.next) hx (by have := h.low; omega) (fun o m e => by have := (Own.id h.st (i := i) (by rw [e]; rfl)).1; omega)]
    exact h.g.keep i hi hx
  · rw [hput_other (Ne.symm hxb), put_same]
  · refine ⟨Nat.le_trans k3.1 (Nat.le_refl _), k3.2.1, k3.2.2.imp id fun ⟨i, o, cs, g1, g2, g3, g4, g5⟩ => ⟨i, o, cs, g1, g2, g3, ?_, g5⟩⟩
    have hi := hnew i (by rw [g1]; rfl)
    rw [hput_other (by omega), hput_other (by have := h.plt; omega)]; exact g4
  · have := hnew _ e; have := h.plt; omega
  · have := hnew i hi; have := Sl.id hs hic; omega
  · refine ⟨i, o, z, cs, g1, Nat.lt_of_lt_of_le g2 k4.next, ?_, g4⟩
    rw [hold i g2 (fun e => by rw [e, h.map] at g3; cases g3) (fun e => h1 (by rw [g1, e]; rfl)) (fun o' m e => h2 i (by rw [e]; rfl) (by rw [g1]; rfl))]
    exact g3

section ext
variable {Hb : Heap} {p x pw : Nat} {n most f : Int} {ci ce : C} {es : List E}

/-! ### the nearest open step -/
def near (os d : List Int) (es : List E) : Nat → List E → Int → Int
  | _, [], b => b
  | k, e :: r, b => near os d es (k + 1) r (if (k : Int) ∈ os ∧ d.getD e.f.toNat 0 ≠ -1 ∧ (b = -1 ∨ d.getD e.f.toNat 0 < d.getD (frOf es b).toNat 0) then (k : Int) else b)
def nearOK (os d : List Int) (es : List E) (b : Int) : Prop := b = -1 ∨ (okI es b ∧ b ∈ os ∧ d.getD (frOf es b).toNat 0 ≠ -1)
theorem near_ok {os d : List Int} : ∀ (k : Nat) (b : Int), k ≤ es.length → nearOK os d es b → nearOK os d es (near os d es k (es.drop k) b) := by
  intro k
  induction hd : es.length - k generalizing k with
  | zero =>
    intro b hk hb
    rw [List.drop_of_length_le (by omega)]; exact hb
  | succ m ih =>
    intro b hk hb
    have hlt : k < es.length := by omega
    rw [List.drop_eq_getElem_cons hlt]
    simp only [near]
    refine ih (k + 1) (by omega) _ (by omega) ?_
    split
    · rename_i h
      have hg := List.getElem?_eq_getElem hlt
      refine .inr ⟨⟨by omega, es[k], by simp⟩, h.1, ?_⟩
      have : frOf es (k : Int) = es[k].f := by simp [frOf, hg]
      rw [this]; exact h.2.1
    · exact hb
theorem f57_2_scan {H : Heap} {cw cd cb : C} {os d W : List Int} {N : Nat} (h : Mk Hb H x pw os f cw W) (ht : Tr M.lim H p x n most ci ce) (he : Eds H ce es) (ge : goodE (N : Int) es) (hes : es.length ≤ 1000000) (hd : Ints H cd d) (hdl : d.length = N) : ∀ (m k : Nat) (b : Int), k + m = es.length → nearOK os d es b →
    f57_2 M (.ptr p 0) (.ptr pw 0) n ci ce cd cb b ce (es.length : Int) (k : Int) H = f57_2 M (.ptr p 0) (.ptr pw 0) n ci ce cd cb (near os d es k (es.drop k) b) ce (es.length : Int) (es.length : Int) H := by
  intro m
  induction m with
  | zero =>
    intro k b hk hb
    obtain rfl : k = es.length := by omega
    rw [List.drop_of_length_le (Nat.le_refl _)]; rfl
  | succ m ih =>
    intro k b hk hb
    have hlt : k < es.length := by omega
    obtain ⟨q, b1, b2, b3, b4⟩ := he.read (List.getElem?_eq_getElem hlt)
    obtain ⟨⟨hf0, hf1⟩, _⟩ := ge _ (List.getElem_mem hlt)
    obtain ⟨q16, c1, c2⟩ := hd.readI hf0 (getD_of (l := d) (i := es[k].f.toNat) (by omega) 0)
    have hld : H.ld p (0 + 3) = some (.map x) := by simp [Heap.ld, ht.get]
    have hld2 : H.ld p (0 + 2) = some ce := by simp [Heap.ld, ht.get]
    have hgm : Heap.getMap H (.map x) = some (os.map ent) := by simp [Heap.getMap, h.map]
    have hnx : nearOK os d es (if (k : Int) ∈ os ∧ d.getD es[k].f.toNat 0 ≠ -1 ∧ (b = -1 ∨ d.getD es[k].f.toNat 0 < d.getD (frOf es b).toNat 0) then (k : Int) else b) := by
      split
      · rename_i h
        have hg := List.getElem?_eq_getElem hlt
        refine .inr ⟨⟨by omega, es[k], by simp⟩, h.1, ?_⟩
        have : frOf es (k : Int) = es[k].f := by simp [frOf, hg]
        rw [this]; exact h.2.1
      · exact hb
    have hih := ih (k + 1) _ (by omega) hnx
    have e3 : ∀ b', f57_3 M (.ptr p 0) (.ptr pw 0) n ci ce cd cb b' ce (es.length : Int) (k : Int) H = f57_2 M (.ptr p 0) (.ptr pw 0) n ci ce cd cb b' ce (es.length : Int) ((k + 1 : Nat) : Int) H := fun b' => by
      rw [f57_3_eq, wrap_succ (show k ≤ 1000000000 by omega)]
    rw [f57_2_eq, List.drop_eq_getElem_cons hlt]
    simp only [near, ← hih]
    simp only [show ((k : Int) < es.length) by omega, decide_true, if_true, b1, b2, b3, b4, Option.bind_some, asI_int, withP_ptr, hld, hgm, findK_ent]
    by_cases hm : (k : Int) ∈ os
    · simp only [hm, if_true, Option.getD_some, asC_c, asB_bool, Option.bind_some, c1, c2, asI_int, true_and]
      by_cases hz : d.getD es[k].f.toNat 0 = -1
      · simp only [hz, decide_true, Bool.not_true, Bool.false_eq_true, if_false, Option.bind_some, e3, ne_eq, not_true, false_and]
      · simp only [hz, decide_false, Bool.not_false, if_true, Option.bind_some, e3, ne_eq, not_false_iff, true_and]
        rcases hb with hb | ⟨hok, hbm, hbd⟩
        · simp only [hb, decide_true, Bool.true_eq_false, if_false, Option.bind_some, if_true, true_or]
          exact e3 _
        · have hne : ¬ b = -1 := fun e => by have := hok.1; omega
          obtain ⟨f0, f1⟩ := frOf_in ge hok
          obtain ⟨q27, g1, g2⟩ := he.source hok
          obtain ⟨q30, i1, i2⟩ := hd.readI f0 (getD_of (l := d) (by rw [hdl]; exact f1) 0)
          simp only [hne, decide_false, if_true, c1, c2, Option.bind_some, asI_int, withP_ptr, hld2, g1, g2, i1, i2, false_or, decide_eq_true_eq]
          by_cases hl : d.getD es[k].f.toNat 0 < d.getD (frOf es b).toNat 0
          · simp only [hl, if_true]
            exact e3 _
          · simp only [hl, if_false]
            exact e3 _
    · simp only [hm, if_false, Option.getD_none, asC_c, asB_bool, Option.bind_some, Bool.false_eq_true, e3, false_and]
end ext
end Go.Proofs.Ytnnjklkfcleleaa.R
