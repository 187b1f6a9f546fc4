/-
  CHAPTER 20: how far states are: the program's own search in the machine; paths.
-/
import Derived.Test.YtnnjklkfcleleaaWj
namespace Go.Proofs.Ytnnjklkfcleleaa.R
open Go Go.Proofs.Ytnnjklkfcleleaa.Vm
set_option linter.unusedVariables false
set_option linter.unusedSimpArgs false
variable {M : Mach}

structure Far (H1 H : Heap) (cd cb co : C) (d b q : List Int) : Prop where
  g : Grow H1 H
  d : OInts H H1.next cd d
  b : OInts H H1.next cb b
  q : OInts H H1.next co q
  db : ∀ i, idOf cd = some i → idOf cb ≠ some i
  dq : ∀ i, idOf cd = some i → idOf co ≠ some i
  bq : ∀ i, idOf cb = some i → idOf co ≠ some i
section far
variable {H1 H : Heap} {cd cb co : C} {d b q : List Int} {lim : Nat}
theorem Far.setD (h : Far H1 H cd cb co d b q) (hl : lim ≤ H1.next) {i : Int} (h0 : 0 ≤ i) (hi : i.toNat < d.length) (x : Int) : ∃ p H', C.elem 1 cd i = some p ∧ H.st lim p.1 p.2 [.int .i64 x] = some H' ∧ Far H1 H' cd cb co (d.set i.toNat x) b q := by
  obtain ⟨p, H', a1, a2, a3, a4, a5⟩ := h.d.setI hl h0 hi x
  exact ⟨p, H', a1, a2, Own.kept_grow h.d h.g a4, a3, h.b.kept a4 (apart_of h.db), h.q.kept a4 (apart_of h.dq), h.db, h.dq, h.bq⟩
theorem Far.setB (h : Far H1 H cd cb co d b q) (hl : lim ≤ H1.next) {i : Int} (h0 : 0 ≤ i) (hi : i.toNat < b.length) (x : Int) : ∃ p H', C.elem 1 cb i = some p ∧ H.st lim p.1 p.2 [.int .i64 x] = some H' ∧ Far H1 H' cd cb co d (b.set i.toNat x) q := by
  obtain ⟨p, H', a1, a2, a3, a4, a5⟩ := h.b.setI hl h0 hi x
  exact ⟨p, H', a1, a2, Own.kept_grow h.b h.g a4, h.d.kept a4 (apart_of fun i h1 h2 => h.db i h2 h1), a3, h.q.kept a4 (apart_of h.bq), h.db, h.dq, h.bq⟩
theorem Far.push (h : Far H1 H cd cb co d b q) (hl : lim ≤ H1.next) (x : Int) (hroom : q.length + 1 ≤ 2 ^ 36) :
    Heap.cellsOf (H.alloc (.cells 1 [.int .i64 x])) 1 (.slice H.next 0 1) = some [.int .i64 x] ∧ ∃ co' H', Heap.app lim (H.alloc (.cells 1 [.int .i64 x])) 1 co [.int .i64 x] 1 = some (co', H') ∧ Far H1 H' cd cb co' d b (q ++ [x]) := by
  obtain ⟨a1, co', H', a2, a3, a4, a5⟩ := h.q.append1 (lim := lim) hl x hroom
  have hnew : ∀ i, idOf co' = some i → H.next ≤ i := fun i hi => by
    rcases a5 with rfl | ⟨j, o, n, rfl, hj⟩
    · cases hi
    · cases hi; exact hj
  refine ⟨a1, co', H', a2, Own.kept_grow h.q h.g a4, h.d.kept a4 (apart_of fun i h1 h2 => h.dq i h2 h1), h.b.kept a4 (apart_of fun i h1 h2 => h.bq i h2 h1), a3, h.db, fun i h1 h2 => ?_, fun i h1 h2 => ?_⟩
  · have := hnew i h2; have := (Own.id h.d h1).2; omega
  · have := hnew i h2; have := (Own.id h.b h1).2; omega
theorem Far.pop {s : Int} (h : Far H1 H cd cb co d b (s :: q)) : ∃ p c5, C.elem 1 co 0 = some p ∧ H.ld p.1 p.2 = some (.int .i64 s) ∧ Heap.sub lim H 1 co 1 none = some c5 ∧ Far H1 H cd cb c5 d b q := by
  obtain ⟨p, a1, a2⟩ := h.q.ints.read (j := 0) (v := s) rfl
  have e0 : ((0 : Nat) : Int) = 0 := rfl
  rw [e0] at a1
  obtain ⟨hb, hr, h0 | ⟨i, o, cs, he, h2, h3, h4, h5, h6⟩⟩ := h.q
  · simp at h0
  · simp only [List.map_cons, List.length_cons, List.length_map] at he h5 h6
    subst he
    have hsub : Heap.sub lim H 1 (.slice i o (q.length + 1)) 1 none = some (.slice i (o + 1) q.length) := by
      have hbad : ¬ (lim ≤ i ∧ H.szBad i 1 = true) := fun ⟨_, k2⟩ => by simp [Heap.szBad, h4] at k2
      simp only [Heap.sub, hbad, if_false, Option.getD_none]
      rw [if_pos (by omega)]
      simp
    refine ⟨p, _, a1, a2, hsub, h.g, h.d, h.b, ⟨hb, fun r hr' => hr r (by simp at hr' ⊢; exact .inr hr'), .inr ⟨i, o + 1, cs, by simp, h2, h3, h4, by simp; omega, ?_⟩⟩, h.db, h.dq, h.bq⟩
    simp only [List.length_map]
    have e : (cs.drop (o + 1)).take (q.length * 1) = ((cs.drop o).take ((q.length + 1) * 1)).drop 1 := by
      rw [List.drop_take, List.drop_drop]; congr 1
    rw [e, h6]
    simp [rowI]
end far

section loops
variable {n : Int} {ci ce out cd cb : C} {g0 x0 x4 : Int} {y1 y2 y3 y4 : C} {es : List E}
theorem getD_of {l : List Int} {i : Nat} (h : i < l.length) (x : Int) : l[i]? = some (l.getD i x) := by
  rw [List.getD_eq_getElem?_getD, List.getElem?_eq_getElem h]; rfl
theorem f47_3_is {H1 : Heap} (hM : M.lim ≤ H1.next) {N : Nat} (he : Eds H1 ce es) (ge : goodE (N : Int) es) {c : C} {l : List Int} (hc : Ints H1 c l) (hl : ∀ i ∈ l, okI es i) (hn : l.length ≤ 1000000) {s v : Int} (hs0 : 0 ≤ s) (hs1 : s.toNat < N) (hv0 : 0 ≤ v) (hv1 : v ≤ 1000000) :
    ∀ (dd k : Nat) (H : Heap) (co : C) (d b q : List Int), k + dd = l.length → Far H1 H cd cb co d b q → d.length = N → b.length = N → d.getD s.toNat 0 = v → q.length + dd ≤ 2000000 →
    ∃ co' H', f47_3 M n ci ce x4 y1 y2 y3 y4 out x0 ci ce cd cb co s c (l.length : Int) (k : Int) H = f47_2 M n ci ce x4 y1 y2 y3 y4 out x0 ci ce cd cb co' H' ∧
      Far H1 H' cd cb co' (relax es s (l.drop k) (d, b, q)).1 (relax es s (l.drop k) (d, b, q)).2.1 (relax es s (l.drop k) (d, b, q)).2.2 := by
  intro dd
  induction dd with
  | zero =>
    intro k H co d b q hk F h1 h2 hv hq
    refine ⟨co, H, ?_, ?_⟩
    · rw [f47_3_eq]
      simp only [show ¬ ((k : Int) < l.length) by omega, decide_false, Bool.false_eq_true, if_false]
    · rw [List.drop_of_length_le (by omega)]; exact F
  | succ dd ih =>
    intro k H co d b q hk F h1 h2 hv hq
    have hlt : k < l.length := by omega
    have hok := hl l[k] (List.getElem_mem hlt)
    obtain ⟨q1, c1, c2⟩ := (hc.grow F.g).read (List.getElem?_eq_getElem hlt)
    obtain ⟨q4, t1, t2⟩ := (he.grow F.g).target hok
    obtain ⟨h0i, e, hei⟩ := hok
    have hto : toOf es l[k] = e.t := by simp only [toOf, hei]
    obtain ⟨_, ⟨ht0, ht1⟩, _⟩ := ge e (List.mem_of_getElem? hei)
    have htn : (toOf es l[k]).toNat < N := by rw [hto]; omega
    have ht0' : 0 ≤ toOf es l[k] := by rw [hto]; exact ht0
    obtain ⟨q7, d1, d2⟩ := F.d.ints.readI ht0' (getD_of (by rw [h1]; exact htn) 0)
    rw [f47_3_eq, List.drop_eq_getElem_cons hlt]
    simp only [show ((k : Int) < l.length) by omega, decide_true, if_true, c1, c2, t1, t2, d1, d2, Option.bind_some, asI_int, relax]
    by_cases hd : d.getD (toOf es l[k]).toNat 0 = -1
    · obtain ⟨q10, e1, e2⟩ := F.d.ints.readI hs0 (getD_of (by rw [h1]; exact hs1) 0)
      have hw : IntKind.wrap .i64 (v + 1) = v + 1 := wrap_in (by omega) (by omega)
      obtain ⟨p1, Ha, a1, a2, F1⟩ := F.setD (lim := M.lim) hM ht0' (by rw [h1]; exact htn) (v + 1)
      rw [d1] at a1; cases a1
      obtain ⟨p2, Hb, b1, b2, F2⟩ := F1.setB (lim := M.lim) hM ht0' (by rw [h2]; exact htn) l[k]
      obtain ⟨k1, co', Hc, k2, F3⟩ := F2.push (lim := M.lim) hM (toOf es l[k]) (by omega)
      have hne : s.toNat ≠ (toOf es l[k]).toNat := fun e' => by rw [← e'] at hd; omega
      have hv' : (d.set (toOf es l[k]).toNat (v + 1)).getD s.toNat 0 = v := by
        rw [List.getD_eq_getElem?_getD, List.getElem?_set_ne (Ne.symm hne), ← List.getD_eq_getElem?_getD]; exact hv
      obtain ⟨co2, H2, i1, i2⟩ := ih (k + 1) Hc co' _ _ _ (by omega) F3 (by simp [h1]) (by simp [h2]) hv' (by simp; omega)
      refine ⟨co2, H2, ?_, ?_⟩
      · simp only [hd, decide_true, if_true, e1, e2, Option.bind_some, asI_int, hv, hw, a2, b1, b2, k1, k2]
        rw [f47_4_eq, wrap_succ (show k ≤ 1000000000 by omega)]
        exact i1
      · simp only [hd, if_true, hv]; exact i2
    · obtain ⟨co2, H2, i1, i2⟩ := ih (k + 1) H co d b q (by omega) F h1 h2 hv (by omega)
      refine ⟨co2, H2, ?_, ?_⟩
      · simp only [hd, decide_false, Bool.false_eq_true, if_false]
        rw [f47_4_eq, wrap_succ (show k ≤ 1000000000 by omega)]
        exact i1
      · simp only [hd, if_false]; exact i2

/-- what the search keeps -/
structure OkQ (N : Nat) (K : Int) (d b q : List Int) : Prop where
  dl : d.length = N
  bl : b.length = N
  le : ∀ x ∈ d, x ≤ K
  qs : ∀ s ∈ q, 0 ≤ s ∧ s.toNat < N ∧ 0 ≤ d.getD s.toNat 0
  ql : (q.length : Int) ≤ 2000 * (K + 1)
theorem relax_ok {N : Nat} {s v K : Int} (hv0 : 0 ≤ v) (hvK : v + 1 ≤ K) (hs : s.toNat < N) : ∀ (l : List Int) (d b q : List Int), (∀ i ∈ l, 0 ≤ toOf es i ∧ (toOf es i).toNat < N) → d.length = N → b.length = N → (∀ x ∈ d, x ≤ K) → (∀ s ∈ q, 0 ≤ s ∧ s.toNat < N ∧ 0 ≤ d.getD s.toNat 0) → d.getD s.toNat 0 = v →
    let r := relax es s l (d, b, q)
    r.1.length = N ∧ r.2.1.length = N ∧ (∀ x ∈ r.1, x ≤ K) ∧ (∀ s ∈ r.2.2, 0 ≤ s ∧ s.toNat < N ∧ 0 ≤ r.1.getD s.toNat 0) ∧ r.2.2.length ≤ q.length + l.length
  | [], d, b, q, _, h1, h2, h3, h4, _ => ⟨h1, h2, h3, h4, by simp [relax]⟩
  | i :: l, d, b, q, hl, h1, h2, h3, h4, hv => by
    simp only [relax]
    obtain ⟨t0, t1⟩ := hl i (by simp)
    by_cases hd : d.getD (toOf es i).toNat 0 = -1
    · simp only [hd, if_true, hv]
      have hne : s.toNat ≠ (toOf es i).toNat := fun e' => by rw [← e'] at hd; omega
      have hget : ∀ z, z ≠ (toOf es i).toNat → (d.set (toOf es i).toNat (v + 1)).getD z 0 = d.getD z 0 := fun z hz => by
        rw [List.getD_eq_getElem?_getD, List.getElem?_set_ne (Ne.symm hz), ← List.getD_eq_getElem?_getD]
      have hself : (d.set (toOf es i).toNat (v + 1)).getD (toOf es i).toNat 0 = v + 1 := by
        rw [List.getD_eq_getElem?_getD, List.getElem?_set_self (by rw [h1]; exact t1)]; rfl
      obtain ⟨r1, r2, r3, r4, r5⟩ := relax_ok hv0 hvK hs l (d.set (toOf es i).toNat (v + 1)) (b.set (toOf es i).toNat i) (q ++ [toOf es i]) (fun j hj => hl j (by simp [hj])) (by simp [h1]) (by simp [h2]) (fun x hx => (List.mem_or_eq_of_mem_set hx).elim (h3 x) (fun e => by rw [e]; exact hvK)) (fun z hz => by
        rcases List.mem_append.1 hz with hz | hz
        · obtain ⟨z0, z1, z2⟩ := h4 z hz
          refine ⟨z0, z1, ?_⟩
          by_cases e : z.toNat = (toOf es i).toNat
          · rw [e, hself]; omega
          · rw [hget _ e]; exact z2
        · simp only [List.mem_singleton] at hz; subst hz
          exact ⟨t0, t1, by rw [hself]; omega⟩) (by rw [hget _ hne]; exact hv)
      exact ⟨r1, r2, r3, r4, by simp at r5 ⊢; omega⟩
    · simp only [hd, if_false]
      obtain ⟨r1, r2, r3, r4, r5⟩ := relax_ok hv0 hvK hs l d b q (fun j hj => hl j (by simp [hj])) h1 h2 h3 h4 hv
      exact ⟨r1, r2, r3, r4, by simp; omega⟩
theorem toOf_in {N : Nat} (ge : goodE (N : Int) es) {i : Int} (h : okI es i) : 0 ≤ toOf es i ∧ (toOf es i).toNat < N := by
  obtain ⟨h0, e, hei⟩ := h
  obtain ⟨_, ⟨ht0, ht1⟩, _⟩ := ge e (List.mem_of_getElem? hei)
  have hto : toOf es i = e.t := by simp only [toOf, hei]
  rw [hto]; omega
theorem relax_okq {N : Nat} (ge : goodE (N : Int) es) (hes : es.length ≤ 2000) {s K : Int} {d b q : List Int} (h : OkQ N K d b (s :: q)) : OkQ N (K + 1) (relax es s (outs es s) (d, b, q)).1 (relax es s (outs es s) (d, b, q)).2.1 (relax es s (outs es s) (d, b, q)).2.2 := by
  obtain ⟨s0, s1, s2⟩ := h.qs s (by simp)
  have hvK : d.getD s.toNat 0 ≤ K := by
    have := getD_of (l := d) (by rw [h.dl]; exact s1) 0
    exact h.le _ (List.mem_of_getElem? this)
  obtain ⟨r1, r2, r3, r4, r5⟩ := relax_ok (es := es) (N := N) (s := s) (v := d.getD s.toNat 0) (K := K + 1) s2 (by omega) s1 (outs es s) d b q (fun i hi => toOf_in ge (outs_ok hi)) h.dl h.bl (fun x hx => by have := h.le x hx; omega) (fun z hz => h.qs z (by simp [hz])) rfl
  have hlo : (outs es s).length ≤ es.length := idxs_length _ _ _
  refine ⟨r1, r2, r3, r4, ?_⟩
  have := h.ql
  simp only [List.length_cons] at this
  have r5' : (relax es s (outs es s) (d, b, q)).2.2.length ≤ q.length + 2000 := by omega
  omega
theorem f47_2_is {H1 : Heap} (hM : M.lim ≤ H1.next) {N : Nat} (he : Eds H1 ce es) (ge : goodE (N : Int) es) (hes : es.length ≤ 2000) (hout : Lists H1 out ((List.range N).map fun s : Nat => outs es (s : Int))) : ∀ (F : Nat) (K : Int) (H : Heap) (co : C) (d b q d' b' : List Int), Far H1 H cd cb co d b q → OkQ N K d b q → 0 ≤ K → K + F ≤ 900 → bfs es F (d, b, q) = some (d', b') →
    ∃ H' co', f47_2 M n ci ce x4 y1 y2 y3 y4 out x0 ci ce cd cb co H = some (.agg [.int .i64 x0, ci, ce, cd, cb], H') ∧ Far H1 H' cd cb co' d' b' [] := by
  intro F
  induction F with
  | zero => intro K H co d b q d' b' _ _ _ _ h; simp [bfs] at h
  | succ F ih =>
    intro K H co d b q d' b' hF hok hK0 hK h
    cases q with
    | nil =>
      simp only [bfs, Option.some.injEq, Prod.mk.injEq] at h
      obtain ⟨rfl, rfl⟩ := h
      refine ⟨H, co, ?_, hF⟩
      rw [f47_2_eq]
      simp only [hF.q.ints.len, Option.bind_some, List.length_nil]
      rfl
    | cons s q =>
      simp only [bfs] at h
      obtain ⟨p, c5, a1, a2, a3, F5⟩ := hF.pop (lim := M.lim)
      obtain ⟨s0, s1, s2⟩ := hok.qs s (by simp)
      obtain ⟨q6, c7, b1, b2, b3⟩ := (hout.grow hF.g).read s0 (l := outs es s) (by simp [s1, Int.toNat_of_nonneg s0])
      have hvK : d.getD s.toNat 0 ≤ K := by
        have := getD_of (l := d) (by rw [hok.dl]; exact s1) 0
        exact hok.le _ (List.mem_of_getElem? this)
      have hlo : (outs es s).length ≤ es.length := idxs_length _ _ _
      have hql := hok.ql
      simp only [List.length_cons] at hql
      -- the steps from s, in the base
      obtain ⟨q6', c7', b1', b2', b3'⟩ := hout.read s0 (l := outs es s) (by simp [s1, Int.toNat_of_nonneg s0])
      have hcc : c7 = c7' := by
        rw [b1] at b1'; cases b1'
        obtain ⟨css, hs1, _, _⟩ := hout
        rcases hs1.2 with ⟨rfl, _⟩ | ⟨i, o, z, cs, rfl, hi, hg, _⟩
        · simp [C.elem] at b1
        · simp only [C.elem] at b1
          split at b1
          · cases b1
            have : H.ld i (o + s.toNat * 1) = H1.ld i (o + s.toNat * 1) := by simp only [Heap.ld, hF.g.keep i hi]
            rw [this, b2'] at b2
            exact (Option.some.inj b2).symm
          · cases b1
      subst hcc
      obtain ⟨co', H2, c1, c2⟩ := f47_3_is (M := M) (n := n) (ci := ci) (x4 := x4) (y1 := y1) (y2 := y2) (y3 := y3) (y4 := y4) (out := out) (x0 := x0) (cd := cd) (cb := cb) hM he ge b3' (fun i hi => outs_ok hi) (by omega) s0 s1 s2 (by omega) (outs es s).length 0 H c5 d b q (by omega) F5 hok.dl hok.bl rfl (by omega)
      rw [List.drop_zero] at c2
      have e0 : ((0 : Nat) : Int) = 0 := rfl
      rw [e0] at c1
      obtain ⟨H', co2, d1, d2⟩ := ih (K + 1) H2 co' _ _ _ d' b' c2 (relax_okq ge hes hok) (by omega) (by push_cast at hK; omega) h
      refine ⟨H', co2, ?_, d2⟩
      rw [f47_2_eq]
      simp only [hF.q.ints.len, Option.bind_some, List.length_cons, show (0 : Int) < ((q.length + 1 : Nat) : Int) by omega, decide_true, if_true, a1, a2, a3, asI_int, b1, b2, b3.len]
      rw [c1]; exact d1
def zeros : List Int → List Int → List Int
  | [], d => d
  | s :: l, d => zeros l (d.set s.toNat 0)
theorem f47_1_is {H1 : Heap} (hM : M.lim ≤ H1.next) {N : Nat} {cf : C} {l : List Int} (hf : Ints H1 cf l) (hl : l.length ≤ 1000000) (hin : ∀ s ∈ l, 0 ≤ s ∧ s.toNat < N) : ∀ (dd k : Nat) (H : Heap) (co : C) (d b q : List Int), k + dd = l.length → Far H1 H cd cb co d b q → d.length = N →
    ∃ H', f47_1 M n ci ce x4 y1 y2 y3 y4 out x0 ci ce cd cb co cf (l.length : Int) (k : Int) H = f47_2 M n ci ce x4 y1 y2 y3 y4 out x0 ci ce cd cb co H' ∧ Far H1 H' cd cb co (zeros (l.drop k) d) b q := by
  intro dd
  induction dd with
  | zero =>
    intro k H co d b q hk F h1
    refine ⟨H, ?_, by rw [List.drop_of_length_le (by omega)]; exact F⟩
    rw [f47_1_eq]
    simp only [show ¬ ((k : Int) < l.length) by omega, decide_false, Bool.false_eq_true, if_false]
  | succ dd ih =>
    intro k H co d b q hk F h1
    have hlt : k < l.length := by omega
    obtain ⟨q1, c1, c2⟩ := (hf.grow F.g).read (List.getElem?_eq_getElem hlt)
    obtain ⟨s0, s1⟩ := hin l[k] (List.getElem_mem hlt)
    obtain ⟨p1, Ha, a1, a2, F1⟩ := F.setD (lim := M.lim) hM s0 (by rw [h1]; exact s1) 0
    obtain ⟨H', i1, i2⟩ := ih (k + 1) Ha co _ b q (by omega) F1 (by simp [h1])
    refine ⟨H', ?_, by rw [List.drop_eq_getElem_cons hlt]; exact i2⟩
    rw [f47_1_eq]
    simp only [show ((k : Int) < l.length) by omega, decide_true, if_true, c1, c2, a1, a2, Option.bind_some, asI_int, wrap_succ (show k ≤ 1000000000 by omega)]
    exact i1
theorem zeros_spec {N : Nat} : ∀ (l d : List Int), d.length = N → (∀ s ∈ l, 0 ≤ s ∧ s.toNat < N) → (zeros l d).length = N ∧ ∀ t, t < N → (zeros l d).getD t 0 = if (∃ s ∈ l, s.toNat = t) then 0 else d.getD t 0
  | [], d, h, _ => ⟨h, fun t _ => by simp [zeros]⟩
  | s :: l, d, h, hin => by
    obtain ⟨h1, h2⟩ := zeros_spec l (d.set s.toNat 0) (by simp [h]) (fun x hx => hin x (by simp [hx]))
    refine ⟨h1, fun t ht => ?_⟩
    simp only [zeros]
    rw [h2 t ht]
    by_cases e : ∃ x ∈ l, x.toNat = t
    · obtain ⟨x, hx, hxt⟩ := e
      rw [if_pos ⟨x, hx, hxt⟩, if_pos ⟨x, by simp [hx], hxt⟩]
    · rw [if_neg e]
      by_cases e2 : s.toNat = t
      · rw [if_pos ⟨s, by simp, e2⟩, List.getD_eq_getElem?_getD, e2, List.getElem?_set_self (by rw [h]; exact ht)]; rfl
      · rw [if_neg (fun ⟨x, hx, hxt⟩ => (List.mem_cons.1 hx).elim (fun e' => e2 (e' ▸ hxt)) (fun hx => e ⟨x, hx, hxt⟩)), List.getD_eq_getElem?_getD, List.getElem?_set_ne e2, ← List.getD_eq_getElem?_getD]
end loops
def far0 (n : Nat) (l : List Int) : List Int × List Int × List Int := (zeros l (List.replicate n (-1)), List.replicate n (-1), l)
theorem f47_is {H : Heap} (hM : M.lim ≤ H.next) {n : Int} {ci ce cf : C} {es : List E} {l d' b' : List Int} (hn : 0 ≤ n ∧ n ≤ 400) (he : Eds H ce es) (ge : goodE n es) (hes : es.length ≤ 2000) (hf : Ints H cf l) (hl : l.length ≤ 2000) (hin : ∀ s ∈ l, 0 ≤ s ∧ s < n) {F : Nat} (hF : F ≤ 800) (hb : bfs es F (far0 n.toNat l) = some (d', b')) :
    ∃ cd cb H', f47 M n ci ce cf H = some (.agg [.int .i64 n, ci, ce, cd, cb], H') ∧ Grow H H' ∧ OInts H' H.next cd d' ∧ OInts H' H.next cb b' := by
  obtain ⟨co, H1, a1, a2, a3⟩ := f53_is (M := M) (ci := ci) hM hn.1 (by omega) he (by omega) (fun e h => (ge e h).1)
  have l2 := OInts.lit H1 (Nat.le_refl H1.next) [(-1 : Int)] rfl (n := 1) rfl
  obtain ⟨cd, H3, b1, b2, b3⟩ := f66_is (M := M) l2.ints hn.1 hn.2 (Nat.le_trans hM (a2.trans (.alloc H1 _)).next)
  have g3 : Grow H1 H3 := (Grow.alloc H1 _).trans b2
  have l4 := OInts.lit H3 (Nat.le_refl H3.next) [(-1 : Int)] rfl (n := 1) rfl
  obtain ⟨cb, H5, c1, c2, c3⟩ := f66_is (M := M) l4.ints hn.1 hn.2 (Nat.le_trans hM (a2.trans (g3.to_alloc _)).next)
  have g5 : Grow H3 H5 := (Grow.alloc H3 _).trans c2
  obtain ⟨cq, H6, d1, d2, d3⟩ := f67_is (M := M) (hf.grow (a2.trans (g3.trans g5))) (Nat.le_trans hM (a2.trans (g3.trans g5)).next) (by omega)
  obtain ⟨N, rfl⟩ := Int.eq_ofNat_of_zero_le hn.1
  simp only [Int.toNat_natCast] at b3 c3 hb a3
  have hfar : Far H1 H6 cd cb cq (List.replicate N (-1)) (List.replicate N (-1)) l := by
    refine ⟨(g3.trans g5).trans d2, Own.low ((b3.grow g5).grow d2) (by simp), Own.low (c3.grow d2) (Nat.le_trans g3.next (by simp)), Own.low d3 (g3.trans g5).next, fun i h1 h2 => ?_, fun i h1 h2 => ?_, fun i h1 h2 => ?_⟩
    · have k1 := (Own.id b3 h1).2
      have k2 := (Own.id c3 h2).1
      have : (H3.alloc (.cells 1 [C.int .i64 (-1)])).next = H3.next + 1 := rfl
      simp only [List.map_cons, List.map_nil] at k2
      omega
    · have k1 := (Own.id (b3.grow g5) h1).2
      have k2 := (Own.id d3 h2).1
      omega
    · have k1 := (Own.id c3 h1).2
      have k2 := (Own.id d3 h2).1
      omega
  have hin' : ∀ s ∈ l, 0 ≤ s ∧ s.toNat < N := fun s hs => by have := hin s hs; omega
  obtain ⟨H7, e1, e2⟩ := f47_1_is (M := M) (n := (N : Int)) (ci := ci) (ce := ce) (out := co) (x4 := 0) (y1 := .nilSlice) (y2 := .nilSlice) (y3 := .nilSlice) (y4 := .nilSlice) (x0 := (N : Int)) (Nat.le_trans hM a2.next) (N := N) (hf.grow a2) (by omega) hin' l.length 0 H6 cq _ _ _ (by omega) hfar (by simp)
  rw [List.drop_zero] at e2
  obtain ⟨z1, z2⟩ := zeros_spec l (List.replicate N (-1)) (by simp) hin'
  have hokq : OkQ N 0 (zeros l (List.replicate N (-1))) (List.replicate N (-1)) l := by
    refine ⟨z1, by simp, fun x hx => ?_, fun s hs => ?_, by omega⟩
    · obtain ⟨t, ht, rfl⟩ := List.getElem_of_mem hx
      have := z2 t (by rw [← z1]; exact ht)
      have h2 := getD_of ht 0
      rw [List.getElem?_eq_getElem ht] at h2
      have h3 := Option.some.inj h2
      rw [h3, this]
      split
      · omega
      · rw [List.getD_eq_getElem?_getD, List.getElem?_replicate]; split <;> simp
    · obtain ⟨s0, s1⟩ := hin' s hs
      refine ⟨s0, s1, ?_⟩
      rw [z2 _ s1, if_pos ⟨s, hs, rfl⟩]; omega
  obtain ⟨H8, co', f1, f2⟩ := f47_2_is (M := M) (n := (N : Int)) (ci := ci) (ce := ce) (out := co) (x4 := 0) (y1 := .nilSlice) (y2 := .nilSlice) (y3 := .nilSlice) (y4 := .nilSlice) (x0 := (N : Int)) (Nat.le_trans hM a2.next) (he.grow a2) ge hes a3 F 0 H7 cq _ _ _ d' b' e2 hokq (by omega) (by omega) hb
  refine ⟨cd, cb, H8, ?_, a2.trans f2.g, Own.low f2.d a2.next, Own.low f2.b a2.next⟩
  rw [f47_eq]
  have e0 : ((0 : Nat) : Int) = 0 := rfl
  rw [e0] at e1
  simp only [List.map_cons, List.map_nil] at b1 c1
  simp only [a1, Option.bind_some, asC_c, b1, c1, d1, hf.len, e1, f1]
end Go.Proofs.Ytnnjklkfcleleaa.R
