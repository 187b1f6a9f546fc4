/-
  CHAPTER 20: walks by a seed: the program's own.
-/
import Derived.Test.YtnnjklkfcleleaaWe
namespace Go.Proofs.Ytnnjklkfcleleaa.R
open Go Go.Proofs.Ytnnjklkfcleleaa.Vm
set_option linter.unusedVariables false
set_option linter.unusedSimpArgs false
variable {M : Mach}

def wOf (ws : List Int) (es : List E) (i : Int) : Int := match es[i.toNat]? with
  | some e => ws.getD e.a.toNat 0
  | none => 0
def toOf (es : List E) (i : Int) : Int := match es[i.toNat]? with
  | some e => e.t
  | none => 0
def goodW (ws : List Int) : Prop := ws.length = 12 ∧ ∀ x ∈ ws, 0 ≤ x ∧ x ≤ 100
def goodE (n : Int) (es : List E) : Prop := ∀ e ∈ es, (0 ≤ e.f ∧ e.f < n) ∧ (0 ≤ e.t ∧ e.t < n) ∧ 0 ≤ e.a ∧ e.a ≤ 11
def okI (es : List E) (i : Int) : Prop := 0 ≤ i ∧ ∃ e, es[i.toNat]? = some e
theorem outs_ok {es : List E} {s i : Int} (h : i ∈ outs es s) : okI es i := by
  obtain ⟨h0, e, he, _⟩ := outs_mem h
  exact ⟨h0, e, he⟩
def sumW (ws : List Int) (es : List E) (l : List Int) : Int := (l.map (wOf ws es)).sum
theorem wOf_bound {ws : List Int} (hw : goodW ws) (es : List E) (i : Int) : 0 ≤ wOf ws es i ∧ wOf ws es i ≤ 100 := by
  unfold wOf
  split
  · rename_i e he
    rw [List.getD_eq_getElem?_getD]
    cases h : ws[e.a.toNat]? with
    | none => simp
    | some x => exact hw.2 x (List.mem_of_getElem? h)
  · omega
theorem sumW_bound {ws : List Int} (hw : goodW ws) (es : List E) : ∀ l, 0 ≤ sumW ws es l ∧ sumW ws es l ≤ 100 * (l.length : Int)
  | [] => by simp [sumW]
  | i :: l => by
    have h1 := sumW_bound hw es l
    have h2 := wOf_bound hw es i
    simp only [sumW, List.map_cons, List.sum_cons, List.length_cons] at h1 ⊢
    push_cast; omega
/-- a weight is read -/
theorem Eds.weight {H : Heap} {ce w : C} {es : List E} {ws : List Int} {n : Int} (he : Eds H ce es) (hw : Ints H w ws) (gw : goodW ws) (ge : goodE n es) {i : Int} (hi : okI es i) :
    ∃ q a q', C.elem 3 ce i = some q ∧ H.ld q.1 (q.2 + 2) = some (.int .i64 a) ∧ C.elem 1 w a = some q' ∧ H.ld q'.1 q'.2 = some (.int .i64 (wOf ws es i)) := by
  obtain ⟨h0, e, hx⟩ := hi
  obtain ⟨q, h1, _, _, h4⟩ := he.readI h0 hx
  obtain ⟨_, _, ha0, ha1⟩ := ge e (List.mem_of_getElem? hx)
  have hlt : e.a.toNat < ws.length := by rw [gw.1]; omega
  obtain ⟨q', k1, k2⟩ := hw.readI ha0 (List.getElem?_eq_getElem hlt)
  refine ⟨q, e.a, q', h1, h4, k1, ?_⟩
  have : wOf ws es i = ws[e.a.toNat] := by
    simp only [wOf, hx, List.getD_eq_getElem?_getD, List.getElem?_eq_getElem hlt, Option.getD_some]
  rw [this]; exact k2
theorem Eds.target {H : Heap} {ce : C} {es : List E} (he : Eds H ce es) {i : Int} (hi : okI es i) : ∃ q, C.elem 3 ce i = some q ∧ H.ld q.1 (q.2 + 1) = some (.int .i64 (toOf es i)) := by
  obtain ⟨h0, e, hx⟩ := hi
  obtain ⟨q, h1, _, h3, _⟩ := he.readI h0 hx
  exact ⟨q, h1, by simp only [toOf, hx]; exact h3⟩

/-! ### which step is taken -/
def pick (ws : List Int) (es : List E) : Int → List Int → Option Int
  | _, [] => none
  | left, i :: l => if left - wOf ws es i < 0 then some i else pick ws es (left - wOf ws es i) l
theorem pick_some {ws : List Int} {es : List E} : ∀ {l : List Int} {left : Int}, 0 ≤ left → left < sumW ws es l → ∃ i, pick ws es left l = some i ∧ i ∈ l
  | [], left, h0, h1 => by
    simp [sumW] at h1; omega
  | i :: l, left, h0, h1 => by
    simp only [pick]
    by_cases h : left - wOf ws es i < 0
    · exact ⟨i, by rw [if_pos h], by simp⟩
    · rw [if_neg h]
      have : left - wOf ws es i < sumW ws es l := by simp only [sumW, List.map_cons, List.sum_cons] at h1 ⊢; omega
      obtain ⟨j, h2, h3⟩ := pick_some (by omega) this
      exact ⟨j, h2, by simp [h3]⟩
def walkRun (ws : List Int) (es : List E) : Nat → Int → Int → List Int × Bool
  | 0, _, s => ([], decide (sumW ws es (outs es s) = 0))
  | d + 1, x, s => if sumW ws es (outs es s) = 0 then ([], true) else match pick ws es (Int.tmod (numStep x) (sumW ws es (outs es s))) (outs es s) with
    | some i => (i :: (walkRun ws es d (numStep x) (toOf es i)).1, (walkRun ws es d (numStep x) (toOf es i)).2)
    | none => ([], false)
theorem numStep_in {x : Int} (h0 : 0 ≤ x) (h1 : x ≤ 2147483646) : 0 ≤ numStep x ∧ numStep x ≤ 2147483646 := by
  unfold numStep
  rw [wrap_in (by omega) (by omega)]
  have h2 : 0 ≤ x * 48271 := by omega
  have h3 := Int.tmod_nonneg 2147483647 h2
  have h4 := Int.tmod_lt_of_pos (x * 48271) (show (0 : Int) < 2147483647 by omega)
  omega

section loops
variable {w ci ce out c y1 : C} {n x0 x1 s w0 y0 : Int} {y2 : Bool} {np : C} {ws : List Int} {es : List E} {l : List Int}
theorem f25_2_is {H : Heap} {w1 : C} {w2 : Bool} (he : Eds H ce es) (hw : Ints H w ws) (gw : goodW ws) {m : Int} (ge : goodE m es) (hc : Ints H c l) (hl : ∀ i ∈ l, okI es i) (hn : l.length ≤ 1000000) : ∀ (d k : Nat) (sum : Int), k + d = l.length → 0 ≤ sum → sum ≤ 100 * (k : Int) →
    f25_2 M w n ci ce x0 x1 y0 y1 y2 np out s w0 w1 w2 sum c (l.length : Int) (k : Int) H = f25_2 M w n ci ce x0 x1 y0 y1 y2 np out s w0 w1 w2 (sum + sumW ws es (l.drop k)) c (l.length : Int) (l.length : Int) H := by
  intro d
  induction d with
  | zero =>
    intro k sum hk h0 h1
    obtain rfl : k = l.length := by omega
    rw [List.drop_of_length_le (Nat.le_refl _)]
    simp [sumW]
  | succ d ih =>
    intro k sum hk h0 h1
    have hlt : k < l.length := by omega
    obtain ⟨q, c1, c2⟩ := hc.read (List.getElem?_eq_getElem hlt)
    obtain ⟨q4, a, q7, d1, d2, d3, d4⟩ := he.weight hw gw ge (hl l[k] (List.getElem_mem hlt))
    have hb := wOf_bound gw es l[k]
    have hwr : IntKind.wrap .i64 (sum + wOf ws es l[k]) = sum + wOf ws es l[k] := wrap_in (by omega) (by omega)
    have ih' := ih (k + 1) (sum + wOf ws es l[k]) (by omega) (by omega) (by push_cast; omega)
    have e1 : sum + sumW ws es (l.drop k) = sum + wOf ws es l[k] + sumW ws es (l.drop (k + 1)) := by
      rw [List.drop_eq_getElem_cons hlt]; simp only [sumW, List.map_cons, List.sum_cons]; omega
    rw [e1, ← ih']
    conv => lhs; rw [f25_2_eq]
    simp only [show ((k : Int) < l.length) by omega, decide_true, if_true, c1, c2, d1, d2, d3, d4, Option.bind_some, asI_int, hwr, wrap_succ (show k ≤ 1000000000 by omega)]
theorem f25_3_is {H : Heap} {b : Nat} {w1 : C} {w2 : Bool} {st : List Int} (hb : M.lim ≤ b) (he : Eds H ce es) (hw : Ints H w ws) (gw : goodW ws) {m : Int} (ge : goodE m es) (hc : Ints H c l) (hl : ∀ i ∈ l, okI es i) (hn : l.length ≤ 1000000)
    (hst : OInts H b w1 st) (hroom : st.length + 1 ≤ 2 ^ 36) (hap : ∀ H', Kept w1 H H' → Eds H' ce es) : ∀ (d k : Nat) (left i : Int), k + d = l.length → 0 ≤ left → left ≤ 1000000000 → pick ws es left (l.drop k) = some i →
    ∃ c' H', f25_3 M w n ci ce x0 x1 y0 y1 y2 np out s w0 w1 w2 left c (l.length : Int) (k : Int) H = f25_1 M w n ci ce x0 x1 y0 y1 y2 np out (toOf es i) w0 c' w2 H' ∧
      OInts H' b c' (st ++ [i]) ∧ Kept w1 H H' ∧ (c' = .nilSlice ∨ ∃ j o z, c' = .slice j o z ∧ H.next ≤ j) := by
  intro d
  induction d with
  | zero =>
    intro k left i hk h0 h1 hp
    rw [List.drop_of_length_le (by omega)] at hp
    simp [pick] at hp
  | succ d ih =>
    intro k left i hk h0 h1 hp
    have hlt : k < l.length := by omega
    have hok := hl l[k] (List.getElem_mem hlt)
    obtain ⟨q, c1, c2⟩ := hc.read (List.getElem?_eq_getElem hlt)
    obtain ⟨q4, a, q7, d1, d2, d3, d4⟩ := he.weight hw gw ge hok
    have hbd := wOf_bound gw es l[k]
    have hwr : IntKind.wrap .i64 (left - wOf ws es l[k]) = left - wOf ws es l[k] := wrap_in (by omega) (by omega)
    rw [List.drop_eq_getElem_cons hlt] at hp
    simp only [pick] at hp
    rw [f25_3_eq]
    simp only [show ((k : Int) < l.length) by omega, decide_true, if_true, c1, c2, d1, d2, d3, d4, Option.bind_some, asI_int, hwr, wrap_succ (show k ≤ 1000000000 by omega)]
    by_cases hlt0 : left - wOf ws es l[k] < 0
    · rw [if_pos hlt0] at hp; cases hp
      obtain ⟨a1, c', H', a2, a3, a4, a5⟩ := hst.append1 (lim := M.lim) hb l[k] hroom
      obtain ⟨q13, t1, t2⟩ := (hap H' a4).target hok
      rw [d1] at t1; cases t1
      simp only [hlt0, decide_true, if_true, a1, a2, t2, Option.bind_some, asI_int]
      exact ⟨c', H', rfl, a3, a4, a5⟩
    · rw [if_neg hlt0] at hp
      simp only [hlt0, decide_false, Bool.false_eq_true, if_false]
      exact ih (k + 1) _ i (by omega) (by omega) (by omega) hp
theorem f25_1_is {H1 : Heap} (hM : M.lim ≤ H1.next) {p : Nat} (hp : H1.next ≤ p) {m : Nat} {steps : Nat} (hsteps : steps ≤ 1000) (he : Eds H1 ce es) (hw : Ints H1 w ws) (gw : goodW ws) (ge : goodE (m : Int) es) (hes : es.length ≤ 1000000)
    (hout : Lists H1 out ((List.range m).map fun s : Nat => outs es (s : Int))) : ∀ (d : Nat) (x s : Int) (st : List Int) (w1 : C) (w2 : Bool) (H : Heap), Grow H1 H → p < H.next → H.get p = some (.cells 1 [.int .i64 x]) → 0 ≤ x → x ≤ 2147483646 → 0 ≤ s → s < m →
    OInts H H1.next w1 st → idOf w1 ≠ some p → st.length + d = steps →
    ∃ c' H', f25_1 M w n ci ce x0 (steps : Int) y0 y1 y2 (.ptr p 0) out s w0 w1 w2 H = some (.tuple [.agg [.int .i64 w0, c', .bool (walkRun ws es d x s).2], .c (.int .i64 0)], H') ∧ Grow H1 H' ∧ OInts H' H1.next c' (st ++ (walkRun ws es d x s).1) := by
  intro d
  induction d with
  | zero =>
    intro x s st w1 w2 H g hpn hg hx0 hx1 hs0 hs1 hst hne hlen
    obtain ⟨q, c, r1, r2, r3⟩ := (hout.grow g).read hs0 (l := outs es s) (by
      have : s.toNat < m := by omega
      simp [this, Int.toNat_of_nonneg hs0])
    have hlo : (outs es s).length ≤ 1000000 := Nat.le_trans (idxs_length _ _ _) hes
    have f2 := f25_2_is (M := M) (n := n) (ci := ci) (x0 := x0) (x1 := (steps : Int)) (y0 := y0) (y1 := y1) (y2 := y2) (np := .ptr p 0) (out := out) (s := s) (w0 := w0) (w1 := w1) (w2 := w2) (he.grow g) (hw.grow g) gw ge r3 (fun i hi => outs_ok hi) hlo (outs es s).length 0 0 (by omega) (by omega) (by omega)
    have e0 : ((0 : Nat) : Int) = 0 := rfl
    rw [e0, Int.zero_add, List.drop_zero] at f2
    refine ⟨w1, H, ?_, g, by simpa [walkRun] using hst⟩
    rw [f25_1_eq]
    simp only [r1, r2, Option.bind_some, r3.len, f2]
    rw [f25_2_eq]
    simp only [show ¬ (((outs es s).length : Int) < (outs es s).length) by omega, decide_false, Bool.false_eq_true, if_false, walkRun]
    by_cases hz : sumW ws es (outs es s) = 0
    · simp only [hz, decide_true, Bool.true_eq_false, if_false, Option.bind_some, if_true]
    · have hll : (st.length : Int) = steps := by omega
      simp only [hz, decide_false, if_true, hst.ints.len, Option.bind_some, hll, decide_true]
  | succ d ih =>
    intro x s st w1 w2 H g hpn hg hx0 hx1 hs0 hs1 hst hne hlen
    obtain ⟨q, c, r1, r2, r3⟩ := (hout.grow g).read hs0 (l := outs es s) (by
      have : s.toNat < m := by omega
      simp [this, Int.toNat_of_nonneg hs0])
    have hlo : (outs es s).length ≤ 1000000 := Nat.le_trans (idxs_length _ _ _) hes
    have f2 := f25_2_is (M := M) (n := n) (ci := ci) (x0 := x0) (x1 := (steps : Int)) (y0 := y0) (y1 := y1) (y2 := y2) (np := .ptr p 0) (out := out) (s := s) (w0 := w0) (w1 := w1) (w2 := w2) (he.grow g) (hw.grow g) gw ge r3 (fun i hi => outs_ok hi) hlo (outs es s).length 0 0 (by omega) (by omega) (by omega)
    have e0 : ((0 : Nat) : Int) = 0 := rfl
    rw [e0, Int.zero_add, List.drop_zero] at f2
    have hsb := sumW_bound gw es (outs es s)
    by_cases hz : sumW ws es (outs es s) = 0
    · refine ⟨w1, H, ?_, g, by simpa [walkRun, hz] using hst⟩
      rw [f25_1_eq]
      simp only [r1, r2, Option.bind_some, r3.len, f2]
      rw [f25_2_eq]
      simp only [show ¬ (((outs es s).length : Int) < (outs es s).length) by omega, decide_false, Bool.false_eq_true, if_false, walkRun, hz, decide_true, Bool.true_eq_false, Option.bind_some, if_true]
    · obtain ⟨hn0, hn1⟩ := numStep_in hx0 hx1
      have hpos : 0 < sumW ws es (outs es s) := by omega
      have hl0 := Int.tmod_nonneg (sumW ws es (outs es s)) hn0
      have hl1 := Int.tmod_lt_of_pos (numStep x) hpos
      obtain ⟨i, hi, him⟩ := pick_some hl0 hl1
      -- the number
      have f45 := f45_is (M := M) (Nat.le_trans hM hp) hg
      have kp : Kept (.slice p 0 0) H (H.put p (.cells 1 [.int .i64 (numStep x)])) := ⟨Nat.le_refl _, fun i hi hn => hput_other fun e => hn 0 0 (by rw [e])⟩
      have g3 : Grow H1 (H.put p (.cells 1 [.int .i64 (numStep x)])) := ⟨g.next, fun i hi => by rw [hput_other (by omega)]; exact g.keep i hi⟩
      have hst3 : OInts (H.put p (.cells 1 [.int .i64 (numStep x)])) H1.next w1 st := hst.kept kp (apart_of fun i hi => by cases hi; exact hne)
      obtain ⟨q', c', r1', r2', r3'⟩ := (hout.grow g3).read hs0 (l := outs es s) (by
        have : s.toNat < m := by omega
        simp [this, Int.toNat_of_nonneg hs0])
      have hll : ¬ ((st.length : Int) = steps) := by omega
      have hst' : ∀ H', Kept w1 (H.put p (.cells 1 [.int .i64 (numStep x)])) H' → Grow H1 H' := fun H' k => Own.kept_grow hst3 g3 k
      obtain ⟨c2, H4, t1, t2, t3, t4⟩ := f25_3_is (M := M) (n := n) (ci := ci) (x0 := x0) (x1 := (steps : Int)) (y0 := y0) (y1 := y1) (y2 := y2) (np := .ptr p 0) (out := out) (s := s) (w0 := w0) (w2 := decide (sumW ws es (outs es s) = 0)) hM (he.grow g3) (hw.grow g3) gw ge r3' (fun i hi => outs_ok hi) hlo hst3 (by omega) (fun H' k => he.grow (hst' H' k))
        (outs es s).length 0 _ i (by omega) hl0 (by omega) (by rw [List.drop_zero]; exact hi)
      rw [e0] at t1
      have g4 := hst' H4 t3
      obtain ⟨h0i, e, hei⟩ := outs_ok him
      have hto : toOf es i = e.t := by simp only [toOf, hei]
      obtain ⟨_, ⟨ht0, ht1⟩, _⟩ := ge e (List.mem_of_getElem? hei)
      have hpn4 : p < H4.next := Nat.lt_of_lt_of_le hpn t3.next
      have hg4 : H4.get p = some (.cells 1 [.int .i64 (numStep x)]) := by
        rw [t3.keep p hpn fun o z e => hne (by rw [e]; rfl), put_same]
      obtain ⟨c5, H5, u1, u2, u3⟩ := ih (numStep x) (toOf es i) (st ++ [i]) c2 (decide (sumW ws es (outs es s) = 0)) H4 g4 hpn4 hg4 hn0 hn1 (by rw [hto]; exact ht0) (by rw [hto]; exact ht1) t2 (by
        intro hc
        rcases t4 with rfl | ⟨j, o, z, rfl, hj⟩
        · cases hc
        · cases hc
          have : H.next ≤ p := hj
          omega) (by simp; omega)
      refine ⟨c5, H5, ?_, u2, ?_⟩
      · rw [f25_1_eq]
        simp only [r1, r2, Option.bind_some, r3.len, f2]
        rw [f25_2_eq]
        simp only [show ¬ (((outs es s).length : Int) < (outs es s).length) by omega, decide_false, Bool.false_eq_true, if_false, hz, if_true, hst.ints.len, Option.bind_some, hll, f45, asC_c, asI_int, r1', r2', r3'.len]
        have t1' := t1
        simp only [hz, decide_false] at t1'
        rw [t1']
        have u1' := u1
        simp only [hz, decide_false] at u1'
        rw [u1']
        simp only [walkRun, hz, if_false, hi]
      · simp only [walkRun, hz, if_false, hi]
        simpa using u3
end loops
end Go.Proofs.Ytnnjklkfcleleaa.R
