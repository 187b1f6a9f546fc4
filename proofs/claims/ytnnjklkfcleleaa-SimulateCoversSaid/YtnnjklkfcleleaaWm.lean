/-
  CHAPTER 20: the reference's distances and least walk in the machine.
-/
import Derived.Test.YtnnjklkfcleleaaWl
namespace Go.Proofs.Ytnnjklkfcleleaa.R
open Go Go.Proofs.Ytnnjklkfcleleaa.Vm
set_option linter.unusedVariables false
set_option linter.unusedSimpArgs false
variable {M : Mach}

def rnd (far : Int) : List E → List Int → List Int
  | [], d => d
  | e :: es, d => rnd far es (if d.getD e.f.toNat 0 = far ∧ d.getD e.t.toNat 0 = -1 then d.set e.t.toNat (far + 1) else d)
def rnds (es : List E) : Nat → Int → List Int → List Int
  | 0, _, d => d
  | k + 1, far, d => rnds es k (far + 1) (rnd far es d)
def dist0 (n : Nat) (l : List Int) : List Int := (List.range n).map fun s : Nat => if (s : Int) ∈ l then 0 else -1
def sw (e : E) : E := ⟨e.t, e.f, e.a⟩
theorem rnd_length (far : Int) : ∀ (es : List E) (d : List Int), (rnd far es d).length = d.length
  | [], _ => rfl
  | e :: es, d => by simp only [rnd]; rw [rnd_length far es]; split <;> simp
theorem rnds_length : ∀ (k : Nat) (es : List E) (far : Int) (d : List Int), (rnds es k far d).length = d.length
  | 0, _, _, _ => rfl
  | k + 1, es, far, d => by simp only [rnds]; rw [rnds_length k, rnd_length]

theorem dist0_succ {n k : Nat} {l : List Int} (h : k < n) : (dist0 n l).take (k + 1) = (dist0 n l).take k ++ [if (k : Int) ∈ l then 0 else -1] := by
  rw [List.take_succ_eq_append_getElem (by simp [dist0]; exact h)]
  simp [dist0]

section ref
variable {n : Int} {ci ce : C} {l : List Int} {es : List E}
theorem f22_1_is {H0 : Heap} (hM : M.lim ≤ H0.next) {N : Nat} (hi : Ints H0 ci l) (hl : l.length ≤ 1000000) (hN : N ≤ 1000) : ∀ (d k : Nat) (out : C) (H : Heap), k + d = N → Grow H0 H → OInts H H0.next out ((dist0 N l).take k) →
    ∃ out' H', f22_1 M (N : Int) ci ce out (k : Int) H = f22_3 M (N : Int) ci ce out' 0 H' ∧ Grow H0 H' ∧ OInts H' H0.next out' (dist0 N l) := by
  intro d
  induction d with
  | zero =>
    intro k out H hk g ho
    obtain rfl : k = N := by omega
    refine ⟨out, H, ?_, g, by rw [List.take_of_length_le (by simp [dist0])] at ho; exact ho⟩
    rw [f22_1_eq]
    simp only [show ¬ ((k : Int) < k) by omega, decide_false, Bool.false_eq_true, if_false]
  | succ d ih =>
    intro k out H hk g ho
    have hlt : k < N := by omega
    have step : ∀ v : Int, v = (if (k : Int) ∈ l then 0 else -1) → ∃ out' H', f22_2 M (N : Int) ci ce out (k : Int) v H = f22_3 M (N : Int) ci ce out' 0 H' ∧ Grow H0 H' ∧ OInts H' H0.next out' (dist0 N l) := fun v hv => by
      obtain ⟨a1, c', H', a2, a3, a4, _⟩ := ho.append1 (lim := M.lim) hM v (by simp [dist0]; omega)
      rw [hv, ← dist0_succ hlt] at a3
      obtain ⟨out', H2, b1, b2, b3⟩ := ih (k + 1) c' H' (by omega) (Own.kept_grow ho g a4) a3
      refine ⟨out', H2, ?_, b2, b3⟩
      rw [f22_2_eq]
      simp only [a1, a2, Option.bind_some, wrap_succ (show k ≤ 1000000000 by omega)]
      exact b1
    rw [f22_1_eq]
    simp only [show ((k : Int) < N) by omega, decide_true, if_true, f51_is (hi.grow g) hl, Option.bind_some, asC_c, asB_bool]
    by_cases hm : (k : Int) ∈ l
    · simp only [hm, decide_true, if_true]
      exact step 0 (by rw [if_pos hm])
    · simp only [hm, decide_false, Bool.false_eq_true, if_false]
      exact step (-1) (by rw [if_neg hm])
theorem f22_4_is {H0 : Heap} (hM : M.lim ≤ H0.next) {N : Nat} (he : Eds H0 ce es) (ge : goodE (N : Int) es) (hes : es.length ≤ 1000000) {far : Int} (hf0 : 0 ≤ far) (hf1 : far ≤ 100000) : ∀ (dd k : Nat) (out : C) (d : List Int) (H : Heap), k + dd = es.length → Grow H0 H → OInts H H0.next out d → d.length = N →
    ∃ H', f22_4 M n ci ce out far (k : Int) H = f22_3 M n ci ce out (far + 1) H' ∧ Grow H0 H' ∧ OInts H' H0.next out (rnd far (es.drop k) d) := by
  intro dd
  induction dd with
  | zero =>
    intro k out d H hk g ho hd
    refine ⟨H, ?_, g, by rw [List.drop_of_length_le (by omega)]; exact ho⟩
    have hw : IntKind.wrap .i64 (far + 1) = far + 1 := wrap_in (by omega) (by omega)
    rw [f22_4_eq]
    simp only [(he.grow g).len, Option.bind_some, show ¬ ((k : Int) < es.length) by omega, decide_false, Bool.false_eq_true, if_false, hw]
  | succ dd ih =>
    intro k out d H hk g ho hd
    have hlt : k < es.length := by omega
    obtain ⟨q, c1, c2, c3, c4⟩ := (he.grow g).read (List.getElem?_eq_getElem hlt)
    obtain ⟨⟨f0, f1⟩, ⟨t0, t1⟩, _⟩ := ge es[k] (List.getElem_mem hlt)
    obtain ⟨q9, d1, d2⟩ := ho.ints.readI f0 (getD_of (by rw [hd]; omega) 0)
    obtain ⟨q13, e1, e2⟩ := ho.ints.readI t0 (getD_of (by rw [hd]; omega) 0)
    have hw : IntKind.wrap .i64 (far + 1) = far + 1 := wrap_in (by omega) (by omega)
    rw [f22_4_eq, List.drop_eq_getElem_cons hlt]
    simp only [(he.grow g).len, show ((k : Int) < es.length) by omega, decide_true, if_true, c1, c2, c3, c4, d1, d2, Option.bind_some, asI_int, rnd]
    have stay : ¬ (d.getD es[k].f.toNat 0 = far ∧ d.getD es[k].t.toNat 0 = -1) → ∃ H', f22_5 M n ci ce out far (k : Int) H = f22_3 M n ci ce out (far + 1) H' ∧ Grow H0 H' ∧ OInts H' H0.next out (rnd far (es.drop (k + 1)) (if d.getD es[k].f.toNat 0 = far ∧ d.getD es[k].t.toNat 0 = -1 then d.set es[k].t.toNat (far + 1) else d)) := fun hn => by
      rw [if_neg hn]
      obtain ⟨H', i1, i2, i3⟩ := ih (k + 1) out d H (by omega) g ho hd
      refine ⟨H', ?_, i2, i3⟩
      rw [f22_5_eq, wrap_succ (show k ≤ 1000000000 by omega)]; exact i1
    by_cases h1 : d.getD es[k].f.toNat 0 = far
    · by_cases h2 : d.getD es[k].t.toNat 0 = -1
      · obtain ⟨q16, H1, k1, k2, k3, k4, _⟩ := ho.setI (lim := M.lim) hM t0 (by rw [hd]; omega) (far + 1)
        rw [e1] at k1; cases k1
        obtain ⟨H', i1, i2, i3⟩ := ih (k + 1) out _ H1 (by omega) (Own.kept_grow ho g k4) k3 (by simp [hd])
        refine ⟨H', ?_, i2, by rw [if_pos ⟨h1, h2⟩]; exact i3⟩
        simp only [h1, h2, decide_true, if_true, e1, e2, k2, Option.bind_some, asI_int, hw]
        rw [f22_5_eq, wrap_succ (show k ≤ 1000000000 by omega)]; exact i1
      · simp only [h1, h2, decide_true, decide_false, if_true, e1, e2, Option.bind_some, asI_int, Bool.false_eq_true, if_false]
        have := stay (fun h => h2 h.2)
        simpa only [h1, h2, and_false, if_false] using this
    · simp only [h1, decide_false, Bool.false_eq_true, if_false, Option.bind_some]
      have := stay (fun h => h1 h.1)
      simpa only [h1, false_and, if_false] using this
theorem f22_3_is {H0 : Heap} (hM : M.lim ≤ H0.next) {N : Nat} (hN : N ≤ 1000) (he : Eds H0 ce es) (ge : goodE (N : Int) es) (hes : es.length ≤ 1000000) : ∀ (dd k : Nat) (out : C) (d : List Int) (H : Heap), k + dd = N → Grow H0 H → OInts H H0.next out d → d.length = N →
    ∃ H', f22_3 M (N : Int) ci ce out (k : Int) H = some (.c out, H') ∧ Grow H0 H' ∧ OInts H' H0.next out (rnds es dd (k : Int) d) := by
  intro dd
  induction dd with
  | zero =>
    intro k out d H hk g ho hd
    refine ⟨H, ?_, g, ho⟩
    rw [f22_3_eq]
    simp only [show ¬ ((k : Int) < N) by omega, decide_false, Bool.false_eq_true, if_false]
  | succ dd ih =>
    intro k out d H hk g ho hd
    obtain ⟨H1, a1, a2, a3⟩ := f22_4_is (M := M) (n := (N : Int)) (ci := ci) hM he ge hes (far := (k : Int)) (by omega) (by omega) es.length 0 out d H (by omega) g ho hd
    rw [List.drop_zero] at a3
    obtain ⟨H2, b1, b2, b3⟩ := ih (k + 1) out _ H1 (by omega) a2 a3 (by rw [rnd_length]; exact hd)
    refine ⟨H2, ?_, b2, b3⟩
    rw [f22_3_eq]
    simp only [show ((k : Int) < N) by omega, decide_true, if_true]
    have e0 : ((0 : Nat) : Int) = 0 := rfl
    rw [e0] at a1
    rw [a1]; exact b1
theorem f22_is {H : Heap} (hM : M.lim ≤ H.next) (hn : 0 ≤ n ∧ n ≤ 400) (hi : Ints H ci l) (hl : l.length ≤ 1000000) (he : Eds H ce es) (ge : goodE n es) (hes : es.length ≤ 1000000) :
    ∃ c H', f22 M n ci ce H = some (.c c, H') ∧ Grow H H' ∧ OInts H' H.next c (rnds es n.toNat 0 (dist0 n.toNat l)) := by
  obtain ⟨N, rfl⟩ := Int.eq_ofNat_of_zero_le hn.1
  obtain ⟨out, H1, a1, a2, a3⟩ := f22_1_is (M := M) (ce := ce) hM (N := N) hi hl (by omega) N 0 .nilSlice H (by omega) (.refl _) (Own.nil (Nat.le_refl _) 1)
  obtain ⟨H2, b1, b2, b3⟩ := f22_3_is (M := M) (ci := ci) hM (N := N) (by omega) he ge hes N 0 out _ H1 (by omega) a2 a3 (by simp [dist0])
  refine ⟨out, H2, ?_, b2, b3⟩
  rw [f22_eq]
  exact a1.trans b1

/-! ### the least walk -/
def firstIn (left : List Int) (best : Int) (l : List Int) : Int := (l.find? (fun x => decide (left.getD x.toNat 0 = best))).getD 0
def nextE (left : List Int) (s : Int) : Nat → List E → Option Int
  | _, [] => none
  | k, e :: es => if e.f = s ∧ left.getD e.t.toNat 0 = left.getD s.toNat 0 - 1 then some (k : Int) else nextE left s (k + 1) es
def fwd (es : List E) (left : List Int) (t : Int) : Nat → Int → List Int → Option (List Int)
  | 0, _, _ => none
  | F + 1, s, acc => if s = t then some acc else (nextE left s 0 es).bind fun i => fwd es left t F (toOf es i) (acc ++ [i])
theorem nextE_some {left : List Int} {s : Int} : ∀ {es : List E} {k : Nat} {i : Int}, nextE left s k es = some i → ∃ j e, i = ((k + j : Nat) : Int) ∧ es[j]? = some e ∧ e.f = s ∧ left.getD e.t.toNat 0 = left.getD s.toNat 0 - 1
  | [], _, _, h => by simp [nextE] at h
  | e :: es, k, i, h => by
    simp only [nextE] at h
    split at h
    · rename_i hc
      cases h
      exact ⟨0, e, rfl, rfl, hc.1, hc.2⟩
    · obtain ⟨j, e', h1, h2, h3⟩ := nextE_some h
      exact ⟨j + 1, e', by rw [h1]; congr 1; omega, by simpa using h2, h3⟩
variable {t x40 : Int} {x41 : C} {x42 : Bool}
theorem f23_1_is {H0 : Heap} (hM : M.lim ≤ H0.next) {N : Nat} {left : C} (ht0 : 0 ≤ t) (ht1 : t.toNat < N) (hN : N ≤ 1000) : ∀ (dd k : Nat) (d : List Int) (H : Heap), k + dd = N → Grow H0 H → OInts H H0.next left d → d.length = N → d.take k = List.replicate k (-1) →
    ∃ H', f23_1 M t (N : Int) ci ce x40 x41 x42 left (k : Int) H = f23_2 M t (N : Int) ci ce x40 x41 x42 left 0 H' ∧ Grow H0 H' ∧ OInts H' H0.next left ((List.replicate N (-1)).set t.toNat 0) := by
  intro dd
  induction dd with
  | zero =>
    intro k d H hk g ho hd htk
    obtain rfl : k = N := by omega
    obtain ⟨q, H', a1, a2, a3, a4, _⟩ := ho.setI (lim := M.lim) hM ht0 (by rw [hd]; exact ht1) 0
    refine ⟨H', ?_, Own.kept_grow ho g a4, ?_⟩
    · rw [f23_1_eq]
      simp only [show ¬ ((k : Int) < k) by omega, decide_false, Bool.false_eq_true, if_false, a1, a2, Option.bind_some]
    · rw [List.take_of_length_le (by omega)] at htk
      rw [← htk]; exact a3
  | succ dd ih =>
    intro k d H hk g ho hd htk
    obtain ⟨q, H', a1, a2, a3, a4, _⟩ := ho.set (lim := M.lim) hM (j := k) (by rw [hd]; omega) (-1)
    obtain ⟨H2, b1, b2, b3⟩ := ih (k + 1) _ H' (by omega) (Own.kept_grow ho g a4) a3 (by simp [hd]) (by
      rw [List.take_succ_eq_append_getElem (by simp; omega), List.take_set_of_le (by omega), htk]
      simp [List.replicate_succ'])
    refine ⟨H2, ?_, b2, b3⟩
    rw [f23_1_eq]
    simp only [show ((k : Int) < N) by omega, decide_true, if_true, a1, a2, Option.bind_some, wrap_succ (show k ≤ 1000000000 by omega)]
    exact b1
theorem f23_3_is {H0 : Heap} (hM : M.lim ≤ H0.next) {N : Nat} {left : C} (he : Eds H0 ce es) (ge : goodE (N : Int) es) (hes : es.length ≤ 1000000) {far : Int} (hf0 : 0 ≤ far) (hf1 : far ≤ 100000) : ∀ (dd k : Nat) (d : List Int) (H : Heap), k + dd = es.length → Grow H0 H → OInts H H0.next left d → d.length = N →
    ∃ H', f23_3 M t n ci ce x40 x41 x42 left far (k : Int) H = f23_2 M t n ci ce x40 x41 x42 left (far + 1) H' ∧ Grow H0 H' ∧ OInts H' H0.next left (rnd far ((es.map sw).drop k) d) := by
  intro dd
  induction dd with
  | zero =>
    intro k d H hk g ho hd
    refine ⟨H, ?_, g, by rw [List.drop_of_length_le (by simp; omega)]; exact ho⟩
    have hw : IntKind.wrap .i64 (far + 1) = far + 1 := wrap_in (by omega) (by omega)
    rw [f23_3_eq]
    simp only [(he.grow g).len, Option.bind_some, show ¬ ((k : Int) < es.length) by omega, decide_false, Bool.false_eq_true, if_false, hw]
  | succ dd ih =>
    intro k d H hk g ho hd
    have hlt : k < es.length := by omega
    obtain ⟨q, c1, c2, c3, c4⟩ := (he.grow g).read (List.getElem?_eq_getElem hlt)
    obtain ⟨⟨f0, f1⟩, ⟨t0, t1⟩, _⟩ := ge es[k] (List.getElem_mem hlt)
    obtain ⟨q9, d1, d2⟩ := ho.ints.readI t0 (getD_of (by rw [hd]; omega) 0)
    obtain ⟨q13, e1, e2⟩ := ho.ints.readI f0 (getD_of (by rw [hd]; omega) 0)
    have hw : IntKind.wrap .i64 (far + 1) = far + 1 := wrap_in (by omega) (by omega)
    have hdr : (es.map sw).drop k = sw es[k] :: (es.map sw).drop (k + 1) := by
      rw [List.drop_eq_getElem_cons (by simpa using hlt)]; simp
    rw [f23_3_eq, hdr]
    simp only [(he.grow g).len, show ((k : Int) < es.length) by omega, decide_true, if_true, c1, c2, c3, c4, d1, d2, Option.bind_some, asI_int, rnd]
    have stay : ¬ (d.getD (sw es[k]).f.toNat 0 = far ∧ d.getD (sw es[k]).t.toNat 0 = -1) → ∃ H', f23_4 M t n ci ce x40 x41 x42 left far (k : Int) H = f23_2 M t n ci ce x40 x41 x42 left (far + 1) H' ∧ Grow H0 H' ∧ OInts H' H0.next left (rnd far ((es.map sw).drop (k + 1)) (if d.getD (sw es[k]).f.toNat 0 = far ∧ d.getD (sw es[k]).t.toNat 0 = -1 then d.set (sw es[k]).t.toNat (far + 1) else d)) := fun hn => by
      rw [if_neg hn]
      obtain ⟨H', i1, i2, i3⟩ := ih (k + 1) d H (by omega) g ho hd
      refine ⟨H', ?_, i2, i3⟩
      rw [f23_4_eq, wrap_succ (show k ≤ 1000000000 by omega)]; exact i1
    by_cases h1 : d.getD es[k].t.toNat 0 = far
    · by_cases h2 : d.getD es[k].f.toNat 0 = -1
      · obtain ⟨q16, H1, k1, k2, k3, k4, _⟩ := ho.setI (lim := M.lim) hM f0 (by rw [hd]; omega) (far + 1)
        rw [e1] at k1; cases k1
        obtain ⟨H', i1, i2, i3⟩ := ih (k + 1) _ H1 (by omega) (Own.kept_grow ho g k4) k3 (by simp [hd])
        refine ⟨H', ?_, i2, by rw [if_pos (show d.getD (sw es[k]).f.toNat 0 = far ∧ d.getD (sw es[k]).t.toNat 0 = -1 from ⟨h1, h2⟩)]; exact i3⟩
        simp only [h1, h2, decide_true, if_true, e1, e2, k2, Option.bind_some, asI_int, hw]
        rw [f23_4_eq, wrap_succ (show k ≤ 1000000000 by omega)]; exact i1
      · simp only [h1, h2, decide_true, decide_false, if_true, e1, e2, Option.bind_some, asI_int, Bool.false_eq_true, if_false]
        exact stay (fun h => h2 h.2)
    · simp only [h1, decide_false, Bool.false_eq_true, if_false, Option.bind_some]
      exact stay (fun h => h1 h.1)
theorem f23_2_is {H0 : Heap} (hM : M.lim ≤ H0.next) {N : Nat} (hN : N ≤ 1000) {left : C} (he : Eds H0 ce es) (ge : goodE (N : Int) es) (hes : es.length ≤ 1000000) : ∀ (dd k : Nat) (d : List Int) (H : Heap), k + dd = N → Grow H0 H → OInts H H0.next left d → d.length = N →
    ∃ H', f23_2 M t (N : Int) ci ce x40 x41 x42 left (k : Int) H = f23_2 M t (N : Int) ci ce x40 x41 x42 left (N : Int) H' ∧ Grow H0 H' ∧ OInts H' H0.next left (rnds (es.map sw) dd (k : Int) d) := by
  intro dd
  induction dd with
  | zero =>
    intro k d H hk g ho hd
    obtain rfl : k = N := by omega
    exact ⟨H, rfl, g, ho⟩
  | succ dd ih =>
    intro k d H hk g ho hd
    obtain ⟨H1, a1, a2, a3⟩ := f23_3_is (M := M) (n := (N : Int)) (ci := ci) (t := t) (x40 := x40) (x41 := x41) (x42 := x42) hM he ge hes (far := (k : Int)) (by omega) (by omega) es.length 0 d H (by omega) g ho hd
    rw [List.drop_zero] at a3
    obtain ⟨H2, b1, b2, b3⟩ := ih (k + 1) _ H1 (by omega) a2 a3 (by rw [rnd_length]; exact hd)
    refine ⟨H2, ?_, b2, b3⟩
    conv => lhs; rw [f23_2_eq]
    simp only [show ((k : Int) < N) by omega, decide_true, if_true]
    have e0 : ((0 : Nat) : Int) = 0 := rfl
    rw [e0] at a1
    rw [a1]; exact b1
theorem f23_5_is {H : Heap} {N : Nat} {left o1 : C} {o2 : Bool} {dl : List Int} (hi : Ints H ci l) (hin : ∀ x ∈ l, 0 ≤ x ∧ x.toNat < N) (hl : l.length ≤ 1000000) (hd : Ints H left dl) (hdl : dl.length = N) {best : Int} : ∀ (d k : Nat), k + d = l.length →
    f23_5 M t n ci ce x40 x41 x42 left best 0 o1 o2 (k : Int) H = f23_6 M t n ci ce x40 x41 x42 left (firstIn dl best (l.drop k)) o1 o2 (firstIn dl best (l.drop k)) H := by
  intro d
  induction d with
  | zero =>
    intro k hk
    rw [f23_5_eq, List.drop_of_length_le (by omega)]
    simp only [hi.len, Option.bind_some, show ¬ ((k : Int) < l.length) by omega, decide_false, Bool.false_eq_true, if_false, firstIn, List.find?_nil, Option.getD_none]
  | succ d ih =>
    intro k hk
    have hlt : k < l.length := by omega
    obtain ⟨q, c1, c2⟩ := hi.read (List.getElem?_eq_getElem hlt)
    obtain ⟨x0, x1⟩ := hin l[k] (List.getElem_mem hlt)
    obtain ⟨q5, d1, d2⟩ := hd.readI x0 (getD_of (by rw [hdl]; exact x1) 0)
    rw [f23_5_eq, List.drop_eq_getElem_cons hlt]
    simp only [hi.len, show ((k : Int) < l.length) by omega, decide_true, if_true, c1, c2, d1, d2, Option.bind_some, asI_int, firstIn, List.find?_cons]
    by_cases h : dl.getD l[k].toNat 0 = best
    · simp only [h, decide_true, if_true, Option.getD_some]
    · simp only [h, decide_false, Bool.false_eq_true, if_false, wrap_succ (show k ≤ 1000000000 by omega)]
      exact ih (k + 1) (by omega)
theorem f23_7_is {H H1 : Heap} (hM : M.lim ≤ H1.next) (g : Grow H1 H) {N : Nat} {left o1 : C} {o0 : Int} {o2 : Bool} {dl st : List Int} (he : Eds H1 ce es) (ge : goodE (N : Int) es) (hes : es.length ≤ 1000000) (hd : Ints H1 left dl) (hdl : dl.length = N) (hb : ∀ x ∈ dl, -1 ≤ x ∧ x ≤ 100000) {s : Int} (s0 : 0 ≤ s) (s1 : s.toNat < N) (ho : OInts H H1.next o1 st) (hroom : st.length + 1 ≤ 100000) : ∀ (d k : Nat) (i : Int), k + d = es.length → nextE dl s k (es.drop k) = some i →
    ∃ c' H', f23_7 M t n ci ce x40 x41 x42 left o0 o1 o2 s (k : Int) H = f23_6 M t n ci ce x40 x41 x42 left o0 c' o2 (toOf es i) H' ∧ Grow H1 H' ∧ OInts H' H1.next c' (st ++ [i]) := by
  intro d
  induction d with
  | zero =>
    intro k i hk h
    rw [List.drop_of_length_le (by omega)] at h
    simp [nextE] at h
  | succ d ih =>
    intro k i hk h
    have hlt : k < es.length := by omega
    have hok : okI es (k : Int) := ⟨by omega, es[k], by simp [hlt]⟩
    obtain ⟨q, c1, c2, c3, _⟩ := (he.grow g).read (List.getElem?_eq_getElem hlt)
    obtain ⟨⟨f0, f1⟩, ⟨t0, t1⟩, _⟩ := ge es[k] (List.getElem_mem hlt)
    obtain ⟨q9, d1, d2⟩ := (hd.grow g).readI t0 (getD_of (by rw [hdl]; omega) 0)
    obtain ⟨q12, e1, e2⟩ := (hd.grow g).readI s0 (getD_of (by rw [hdl]; exact s1) 0)
    have hbs := hb _ (List.mem_of_getElem? (getD_of (l := dl) (by rw [hdl]; exact s1) 0))
    have hw : IntKind.wrap .i64 (dl.getD s.toNat 0 - 1) = dl.getD s.toNat 0 - 1 := wrap_in (by omega) (by omega)
    rw [List.drop_eq_getElem_cons hlt] at h
    simp only [nextE] at h
    rw [f23_7_eq]
    simp only [(he.grow g).len, show ((k : Int) < es.length) by omega, decide_true, if_true, c1, c2, c3, Option.bind_some, asI_int]
    by_cases h1 : es[k].f = s
    · by_cases h2 : dl.getD es[k].t.toNat 0 = dl.getD s.toNat 0 - 1
      · rw [if_pos ⟨h1, h2⟩] at h; cases h
        obtain ⟨k1, c', H', k2, k3, k4, _⟩ := ho.append1 (lim := M.lim) hM (k : Int) (by omega)
        have g' := Own.kept_grow ho g k4
        obtain ⟨q18, r1, r2⟩ := (he.grow g').target hok
        rw [c1] at r1; cases r1
        refine ⟨c', H', ?_, g', k3⟩
        simp only [h1, decide_true, if_true, d1, d2, e1, e2, Option.bind_some, asI_int, hw, h2, k1, k2, r2]
      · rw [if_neg (fun h => h2 h.2)] at h
        simp only [h1, decide_true, if_true, d1, d2, e1, e2, Option.bind_some, asI_int, hw, h2, decide_false, Bool.false_eq_true, if_false, wrap_succ (show k ≤ 1000000000 by omega)]
        exact ih (k + 1) i (by omega) h
    · rw [if_neg (fun h => h1 h.1)] at h
      simp only [h1, decide_false, Bool.false_eq_true, if_false, Option.bind_some, wrap_succ (show k ≤ 1000000000 by omega)]
      exact ih (k + 1) i (by omega) h
theorem f23_6_is {H1 : Heap} (hM : M.lim ≤ H1.next) {N : Nat} {left : C} {o0 : Int} {o2 : Bool} {dl : List Int} (he : Eds H1 ce es) (ge : goodE (N : Int) es) (hes : es.length ≤ 1000000) (hd : Ints H1 left dl) (hdl : dl.length = N) (hb : ∀ x ∈ dl, -1 ≤ x ∧ x ≤ 100000) : ∀ (F : Nat) (s : Int) (st r : List Int) (o1 : C) (H : Heap), Grow H1 H → 0 ≤ s → s.toNat < N → OInts H H1.next o1 st → st.length + F ≤ 90000 → fwd es dl t F s st = some r →
    ∃ c' H', f23_6 M t n ci ce x40 x41 x42 left o0 o1 o2 s H = some (.agg [.int .i64 o0, c', .bool o2], H') ∧ Grow H1 H' ∧ OInts H' H1.next c' r := by
  intro F
  induction F with
  | zero => intro s st r o1 H _ _ _ _ _ h; simp [fwd] at h
  | succ F ih =>
    intro s st r o1 H g s0 s1 ho hlen h
    simp only [fwd] at h
    rw [f23_6_eq]
    by_cases hs : s = t
    · rw [if_pos hs] at h; cases h
      simp only [hs, decide_true, Bool.not_true, Bool.false_eq_true, if_false]
      exact ⟨o1, H, rfl, g, ho⟩
    · rw [if_neg hs] at h
      obtain ⟨i, hi, h⟩ := Option.bind_eq_some_iff.1 h
      obtain ⟨c', H', a1, a2, a3⟩ := f23_7_is (M := M) (n := n) (ci := ci) (t := t) (x40 := x40) (x41 := x41) (x42 := x42) (o0 := o0) (o2 := o2) hM g he ge hes hd hdl hb s0 s1 ho (by omega) es.length 0 i (by omega) (by rw [List.drop_zero]; exact hi)
      obtain ⟨j, e, h1, h2, _⟩ := nextE_some hi
      have hok : okI es i := ⟨by omega, e, by rw [h1]; simpa using h2⟩
      obtain ⟨u0, u1⟩ := toOf_in ge hok
      obtain ⟨c2, H2, b1, b2, b3⟩ := ih _ _ r c' H' a2 u0 u1 a3 (by simp; omega) h
      refine ⟨c2, H2, ?_, b2, b3⟩
      have e0 : ((0 : Nat) : Int) = 0 := rfl
      rw [e0] at a1
      simp only [hs, decide_false, Bool.not_false, if_true]
      rw [a1]; exact b1
def leftOf (n : Nat) (es : List E) (t : Int) : List Int := rnds (es.map sw) n 0 ((List.replicate n (-1)).set t.toNat 0)
def bestOf (n : Nat) (l : List Int) (es : List E) (t : Int) : Int := (rnds es n 0 (dist0 n l)).getD t.toNat 0
theorem rnd_bound {K far : Int} (h : far + 1 ≤ K) (h0 : -1 ≤ far) : ∀ (es : List E) (d : List Int), (∀ x ∈ d, -1 ≤ x ∧ x ≤ K) → ∀ x ∈ rnd far es d, -1 ≤ x ∧ x ≤ K
  | [], d, hd, x, hx => hd x hx
  | e :: es, d, hd, x, hx => by
    simp only [rnd] at hx
    refine rnd_bound h h0 es _ (fun y hy => ?_) x hx
    split at hy
    · exact (List.mem_or_eq_of_mem_set hy).elim (hd y) (fun e => by omega)
    · exact hd y hy
theorem rnds_bound {K : Int} : ∀ (k : Nat) (es : List E) (far : Int) (d : List Int), far + k ≤ K → -1 ≤ far → (∀ x ∈ d, -1 ≤ x ∧ x ≤ K) → ∀ x ∈ rnds es k far d, -1 ≤ x ∧ x ≤ K
  | 0, _, _, _, _, _, hd => hd
  | k + 1, es, far, d, h, h0, hd => by
    simp only [rnds]
    exact rnds_bound k es (far + 1) _ (by omega) (by omega) (rnd_bound (by omega) h0 es d hd)
theorem f23_is {H : Heap} (hM : M.lim ≤ H.next) (hn : 0 ≤ n ∧ n ≤ 400) (hi : Ints H ci l) (hl : l.length ≤ 1000000) (hin : ∀ x ∈ l, 0 ≤ x ∧ x < n) (he : Eds H ce es) (ge : goodE n es) (hes : es.length ≤ 1000000) (t0 : 0 ≤ t) (t1 : t < n) {r : List Int} {F : Nat} (hF : F ≤ 80000)
    (hfw : fwd es (leftOf n.toNat es t) t F (firstIn (leftOf n.toNat es t) (bestOf n.toNat l es t) l) [] = some r) :
    ∃ c H', f23 M n ci ce t H = some (.agg [.int .i64 (firstIn (leftOf n.toNat es t) (bestOf n.toNat l es t) l), c, .bool false], H') ∧ Grow H H' ∧ Ints H' c r := by
  obtain ⟨N, rfl⟩ := Int.eq_ofNat_of_zero_le hn.1
  simp only [Int.toNat_natCast] at hfw ⊢
  have tN : t.toNat < N := by omega
  have hin' : ∀ x ∈ l, 0 ≤ x ∧ x.toNat < N := fun x hx => by have := hin x hx; omega
  have hmade := Own.made H (Nat.le_refl H.next) (z := [C.int .i64 0]) (sz := 1) rfl N
  have hmade' : OInts (H.alloc (.cells 1 (List.replicate N [C.int .i64 0]).flatten)) H.next (.slice H.next 0 N) (List.replicate N 0) := by
    unfold OInts; rw [List.map_replicate]; exact hmade
  obtain ⟨H1, a1, a2, a3⟩ := f23_1_is (M := M) (ci := ci) (ce := ce) (x40 := 0) (x41 := .nilSlice) (x42 := false) hM t0 tN (by omega) N 0 _ _ (by omega) (.alloc H _) hmade' (by simp) (by simp)
  obtain ⟨H2, b1, b2, b3⟩ := f23_2_is (M := M) (ci := ci) (t := t) (x40 := 0) (x41 := .nilSlice) (x42 := false) hM (N := N) (by omega) he ge hes N 0 _ H1 (by omega) a2 a3 (by simp)
  have hleft : OInts H2 H.next (.slice H.next 0 N) (leftOf N es t) := b3
  obtain ⟨c2, H3, c1, c2', c3⟩ := f22_is (M := M) (n := (N : Int)) (Nat.le_trans hM b2.next) hn (hi.grow b2) hl (he.grow b2) ge hes
  simp only [Int.toNat_natCast] at c3
  have g3 := b2.trans c2'
  obtain ⟨q3, d1, d2⟩ := c3.ints.readI t0 (getD_of (by rw [rnds_length]; simp [dist0]; exact tN) 0)
  have hll : (leftOf N es t).length = N := by unfold leftOf; rw [rnds_length]; simp
  have hbound : ∀ x ∈ leftOf N es t, -1 ≤ x ∧ x ≤ 100000 := rnds_bound N _ 0 _ (by omega) (by omega) (fun x hx => (List.mem_or_eq_of_mem_set hx).elim (fun h => by rw [List.eq_of_mem_replicate h]; omega) (fun e => by omega))
  have hleft3 : Ints H3 (.slice H.next 0 N) (leftOf N es t) := hleft.ints.grow c2'
  have e5 := f23_5_is (M := M) (n := (N : Int)) (ce := ce) (t := t) (x40 := 0) (x41 := .nilSlice) (x42 := false) (o1 := .nilSlice) (o2 := false) (best := bestOf N l es t) (hi.grow g3) hin' hl hleft3 hll l.length 0 (by omega)
  rw [List.drop_zero] at e5
  have hfirst : 0 ≤ firstIn (leftOf N es t) (bestOf N l es t) l ∧ (firstIn (leftOf N es t) (bestOf N l es t) l).toNat < N := by
    unfold firstIn
    cases hf : l.find? (fun x => decide ((leftOf N es t).getD x.toNat 0 = bestOf N l es t)) with
    | none => simp; omega
    | some x => exact hin' x (List.mem_of_find?_eq_some hf)
  obtain ⟨c', H4, k1, k2, k3⟩ := f23_6_is (M := M) (n := (N : Int)) (ci := ci) (t := t) (x40 := 0) (x41 := .nilSlice) (x42 := false) (o0 := firstIn (leftOf N es t) (bestOf N l es t) l) (o2 := false) (Nat.le_trans hM g3.next) (he.grow g3) ge hes hleft3 hll hbound F _ [] r .nilSlice H3 (.refl _) hfirst.1 hfirst.2 (Own.nil (Nat.le_refl _) 1) (by simp; omega) hfw
  refine ⟨c', H4, ?_, g3.trans k2, k3.ints⟩
  have e0 : ((0 : Nat) : Int) = 0 := rfl
  rw [e0] at a1 b1 e5
  rw [f23_eq]
  simp only [show (0 : Int) ≤ (N : Int) ∧ (N : Int) ≤ 2 ^ 36 by omega, and_self, if_true, Int.toNat_natCast]
  rw [a1, b1, f23_2_eq]
  simp only [show ¬ ((N : Int) < N) by omega, decide_false, Bool.false_eq_true, if_false, c1, Option.bind_some, asC_c, d1, d2, asI_int]
  exact e5.trans k1
end ref
end Go.Proofs.Ytnnjklkfcleleaa.R
