/-
  CHAPTER 20: the steps of each state; weights; walks by a seed: the program's own.
-/
import Derived.Test.YtnnjklkfcleleaaWd
import Derived.Test.YtnnjklkfcleleaaVt
namespace Go.Proofs.Ytnnjklkfcleleaa.R
open Go Go.Proofs.Ytnnjklkfcleleaa.Vm
set_option linter.unusedVariables false
set_option linter.unusedSimpArgs false
variable {M : Mach}

/-! ### indexes -/
def idxs (p : E → Bool) : Nat → List E → List Int
  | _, [] => []
  | k, e :: es => if p e then (k : Int) :: idxs p (k + 1) es else idxs p (k + 1) es
theorem idxs_append (p : E → Bool) : ∀ (a b : List E) (k : Nat), idxs p k (a ++ b) = idxs p k a ++ idxs p (k + a.length) b
  | [], b, k => by simp [idxs]
  | e :: a, b, k => by
    have h := idxs_append p a b (k + 1)
    have e1 : k + 1 + a.length = k + (a.length + 1) := by omega
    rw [e1] at h
    simp only [List.cons_append, idxs, List.length_cons, h]
    split <;> simp
theorem idxs_mem {p : E → Bool} : ∀ {es : List E} {k : Nat} {i : Int}, i ∈ idxs p k es → ∃ j e, i = ((k + j : Nat) : Int) ∧ es[j]? = some e ∧ p e = true
  | [], k, i, h => by simp [idxs] at h
  | e :: es, k, i, h => by
    simp only [idxs] at h
    have rest : i ∈ idxs p (k + 1) es → ∃ j e', i = ((k + j : Nat) : Int) ∧ (e :: es)[j]? = some e' ∧ p e' = true := fun h => by
      obtain ⟨j, e', h1, h2, h3⟩ := idxs_mem h
      exact ⟨j + 1, e', by rw [h1]; congr 1; omega, by simpa using h2, h3⟩
    split at h
    · rename_i hp
      rcases List.mem_cons.1 h with rfl | h
      · exact ⟨0, e, by simp, rfl, hp⟩
      · exact rest h
    · exact rest h
def outs (es : List E) (s : Int) : List Int := idxs (fun e => decide (e.f = s)) 0 es
theorem outs_mem {es : List E} {s i : Int} (h : i ∈ outs es s) : 0 ≤ i ∧ ∃ e, es[i.toNat]? = some e ∧ e.f = s := by
  obtain ⟨j, e, rfl, h2, h3⟩ := idxs_mem h
  refine ⟨by omega, e, ?_, by simpa using h3⟩
  simpa using h2
theorem idxs_length (p : E → Bool) : ∀ (es : List E) (k : Nat), (idxs p k es).length ≤ es.length
  | [], k => by simp [idxs]
  | e :: es, k => by
    have := idxs_length p es (k + 1)
    simp only [idxs]; split <;> simp <;> omega

/-! ### lists of lists of numbers -/
/-- read only -/
def Lists (H : Heap) (c : C) (ls : List (List Int)) : Prop := ∃ cs : List C, Sl H c 1 (cs.map fun x => [x]) ∧ cs.length = ls.length ∧ ∀ (s : Nat) x l, cs[s]? = some x → ls[s]? = some l → Ints H x l
theorem Lists.grow {H H' : Heap} {c : C} {ls : List (List Int)} (h : Lists H c ls) (g : Grow H H') : Lists H' c ls := by
  obtain ⟨cs, h1, h2, h3⟩ := h
  exact ⟨cs, h1.grow g, h2, fun s x l hx hl => (h3 s x l hx hl).grow g⟩
theorem Lists.read {H : Heap} {c : C} {ls : List (List Int)} (h : Lists H c ls) {i : Int} (h0 : 0 ≤ i) {l : List Int} (hl : ls[i.toNat]? = some l) : ∃ q x, C.elem 1 c i = some q ∧ H.ld q.1 q.2 = some x ∧ Ints H x l := by
  obtain ⟨cs, h1, h2, h3⟩ := h
  have hlt : i.toNat < cs.length := by rw [h2]; exact (List.getElem?_eq_some_iff.1 hl).1
  obtain ⟨q, a1, a2⟩ := h1.elemI h0 (r := [cs[i.toNat]]) (by simp [hlt])
  exact ⟨q, cs[i.toNat], a1, a2 0 _ rfl, h3 _ _ _ (List.getElem?_eq_getElem hlt) hl⟩
/-- each of an own object -/
structure OLists (H : Heap) (b : Nat) (c : C) (cs : List C) (ls : List (List Int)) : Prop where
  own : Own H b c 1 (cs.map fun x => [x])
  len : cs.length = ls.length
  each : ∀ (s : Nat) x l, cs[s]? = some x → ls[s]? = some l → OInts H b x l
  two : ∀ (s t : Nat) x y i, s ≠ t → cs[s]? = some x → cs[t]? = some y → idOf x = some i → idOf y ≠ some i
  one : ∀ (s : Nat) x i, cs[s]? = some x → idOf x = some i → idOf c ≠ some i
theorem OLists.lists {H : Heap} {b : Nat} {c : C} {cs : List C} {ls : List (List Int)} (h : OLists H b c cs ls) : Lists H c ls :=
  ⟨cs, h.own.sl, h.len, fun s x l hx hl => (h.each s x l hx hl).ints⟩
theorem OLists.made (H : Heap) {b : Nat} (hb : b ≤ H.next) (n : Nat) : OLists (H.alloc (.cells 1 (List.replicate n [C.nilSlice]).flatten)) b (.slice H.next 0 n) (List.replicate n .nilSlice) (List.replicate n []) := by
  have ho := Own.made H hb (z := [C.nilSlice]) (sz := 1) rfl n
  refine ⟨by rw [List.map_replicate]; exact ho, by simp, fun s x l hx hl => ?_, fun s t x y i _ hx _ hi => ?_, fun s x i hx hi => ?_⟩
  · have e1 : x = .nilSlice := List.eq_of_mem_replicate (List.mem_of_getElem? hx)
    have e2 : l = [] := List.eq_of_mem_replicate (List.mem_of_getElem? hl)
    subst e1 e2
    exact Own.nil (by simp; omega) 1
  · have e1 : x = .nilSlice := List.eq_of_mem_replicate (List.mem_of_getElem? hx)
    subst e1; cases hi
  · have e1 : x = .nilSlice := List.eq_of_mem_replicate (List.mem_of_getElem? hx)
    subst e1; cases hi
/-- one number more in the list of one place -/
theorem OLists.add {H : Heap} {lim b : Nat} {c : C} {cs : List C} {ls : List (List Int)} (h : OLists H b c cs ls) (hb : lim ≤ b) {s : Nat} {l : List Int} (hl : ls[s]? = some l) (v : Int) (hroom : l.length + 1 ≤ 2 ^ 36) :
    ∃ q x c' H1 H', C.elem 1 c (s : Int) = some q ∧ H.ld q.1 q.2 = some x ∧ Heap.cellsOf (H.alloc (.cells 1 [.int .i64 v])) 1 (.slice H.next 0 1) = some [.int .i64 v] ∧ Heap.app lim (H.alloc (.cells 1 [.int .i64 v])) 1 x [.int .i64 v] 1 = some (c', H1) ∧
      H1.st lim q.1 q.2 [c'] = some H' ∧ OLists H' b c (cs.set s c') (ls.set s (l ++ [v])) ∧ H.next ≤ H'.next ∧ ∀ i, i < b → H'.get i = H.get i := by
  have hs : s < cs.length := by rw [h.len]; exact (List.getElem?_eq_some_iff.1 hl).1
  have hx := h.each s cs[s] l (List.getElem?_eq_getElem hs) hl
  obtain ⟨q, a1, a2⟩ := h.own.sl.elem (j := s) (r := [cs[s]]) (by simp [hs])
  obtain ⟨b1, c', H1, b2, b3, b4, b5⟩ := hx.append1 (lim := lim) hb v hroom
  have hnew : ∀ i, idOf c' = some i → H.next ≤ i := fun i hi => by
    rcases b5 with rfl | ⟨j, o, n, rfl, hj⟩
    · cases hi
    · cases hi; exact hj
  have hown1 : Own H1 b c 1 (cs.map fun x => [x]) := h.own.kept b4 (apart_of fun i hi => h.one s _ i (List.getElem?_eq_getElem hs) hi)
  obtain ⟨q', H', d1, d2, d3, d4, d5⟩ := hown1.set (lim := lim) hb (j := s) (by simpa using hs) (r := [c']) rfl
  rw [a1] at d1; cases d1
  have ident : ∀ (t : Nat) y i, (cs.set s c')[t]? = some y → idOf y = some i → (t = s ∧ y = c' ∧ H.next ≤ i) ∨ (t ≠ s ∧ cs[t]? = some y ∧ i < H.next) := fun t y i hy hi => by
    by_cases e : t = s
    · subst e
      rw [List.getElem?_set_self hs] at hy; cases hy
      exact .inl ⟨rfl, rfl, hnew i hi⟩
    · rw [List.getElem?_set_ne (Ne.symm e)] at hy
      have hlt : t < ls.length := by rw [← h.len]; exact (List.getElem?_eq_some_iff.1 hy).1
      exact .inr ⟨e, hy, (Own.id (h.each t y _ hy (List.getElem?_eq_getElem hlt)) hi).2⟩
  refine ⟨q, cs[s], c', H1, H', a1, a2 0 _ rfl, b1, b2, d2, ⟨?_, by simp [h.len], ?_, ?_, ?_⟩, Nat.le_trans b4.next d4.next, fun i hi => ?_⟩
  · rw [List.map_set]; exact d3
  · intro t y m hy hm
    have hcy : Apart c y := apart_of fun i hi hiy => by
      rcases ident t y i hy hiy with ⟨_, _, h3⟩ | ⟨h1, h2, _⟩
      · have := (h.own.id hi).2; omega
      · exact h.one t y i h2 hiy hi
    by_cases e : t = s
    · subst e
      rw [List.getElem?_set_self hs] at hy; cases hy
      rw [List.getElem?_set_self (by rw [← h.len]; exact hs)] at hm; cases hm
      exact b3.kept d4 hcy
    · rw [List.getElem?_set_ne (Ne.symm e)] at hy hm
      exact ((h.each t y m hy hm).kept b4 (apart_of fun i hi => h.two s t _ y i (Ne.symm e) (List.getElem?_eq_getElem hs) hy hi)).kept d4 hcy
  · intro t u y z i hne hy hz hi hiz
    rcases ident t y i hy hi with ⟨h1, h2, h3⟩ | ⟨h1, h2, h3⟩ <;> rcases ident u z i hz hiz with ⟨k1, k2, k3⟩ | ⟨k1, k2, k3⟩
    · omega
    · omega
    · omega
    · exact h.two t u y z i hne h2 k2 hi hiz
  · intro t y i hy hi hic
    rcases ident t y i hy hi with ⟨h1, h2, h3⟩ | ⟨h1, h2, h3⟩
    · have := (h.own.id hic).2; omega
    · exact h.one t y i h2 hi hic
  · rw [d4.keep i (Nat.lt_of_lt_of_le hi hown1.1) fun o n e => ?_, b4.keep i (Nat.lt_of_lt_of_le hi h.own.1) fun o n e => ?_]
    · have := (Own.id hx (i := i) (by rw [e]; rfl)).1; omega
    · have := (Own.id h.own (i := i) (by rw [e]; rfl)).1; omega

/-! ### the steps of each state -/
def outsN (es : List E) (n k : Nat) : List (List Int) := (List.range n).map fun s : Nat => idxs (fun e => decide (e.f = (s : Int))) 0 (es.take k)
theorem outsN_get {es : List E} {n k s : Nat} (h : s < n) : (outsN es n k)[s]? = some (idxs (fun e => decide (e.f = (s : Int))) 0 (es.take k)) := by simp [outsN, h]
theorem outsN_succ {es : List E} {n k : Nat} (hk : k < es.length) {s : Nat} (hs : es[k].f = (s : Int)) (hn : s < n) :
    outsN es n (k + 1) = (outsN es n k).set s (idxs (fun e => decide (e.f = (s : Int))) 0 (es.take k) ++ [(k : Int)]) := by
  refine List.ext_getElem? fun t => ?_
  by_cases ht : t < n
  · rw [outsN_get ht, List.take_succ_eq_append_getElem hk, idxs_append]
    simp only [idxs, Nat.zero_add, List.length_take, Nat.min_eq_left (Nat.le_of_lt hk)]
    by_cases e : t = s
    · subst e
      rw [List.getElem?_set_self (by simpa [outsN] using hn)]
      simp [hs]
    · rw [List.getElem?_set_ne (Ne.symm e), outsN_get ht]
      have : ¬ (es[k].f = (t : Int)) := by rw [hs]; omega
      simp [this]
  · rw [List.getElem?_eq_none (by simp [outsN]; omega), List.getElem?_eq_none (by simp [outsN]; omega)]
theorem f53_1_is {H0 : Heap} (hM : M.lim ≤ H0.next) {ce c : C} {es : List E} {n : Nat} (he : Eds H0 ce es) (hl : es.length ≤ 1000000) (hr : ∀ e ∈ es, 0 ≤ e.f ∧ e.f < n) : ∀ (d k : Nat) (H : Heap) (cs : List C), k + d = es.length → Grow H0 H → OLists H H0.next c cs (outsN es n k) →
    ∃ H' cs', f53_1 M c ce (es.length : Int) (k : Int) H = some (.c c, H') ∧ Grow H0 H' ∧ OLists H' H0.next c cs' (outsN es n es.length) := by
  intro d
  induction d with
  | zero =>
    intro k H cs hk g h
    obtain rfl : k = es.length := by omega
    refine ⟨H, cs, ?_, g, h⟩
    rw [f53_1_eq]
    simp only [show ¬ ((es.length : Int) < es.length) by omega, decide_false, Bool.false_eq_true, if_false]
  | succ d ih =>
    intro k H cs hk g h
    have hlt : k < es.length := by omega
    obtain ⟨q, c1, c2, c3, c4⟩ := (he.grow g).read (List.getElem?_eq_getElem hlt)
    obtain ⟨hf0, hf1⟩ := hr es[k] (List.getElem_mem hlt)
    obtain ⟨s, hs⟩ := Int.eq_ofNat_of_zero_le hf0
    have hsn : s < n := by omega
    have hroom : (idxs (fun e => decide (e.f = (s : Int))) 0 (es.take k)).length + 1 ≤ 2 ^ 36 := by
      have := idxs_length (fun e => decide (e.f = (s : Int))) (es.take k) 0
      rw [List.length_take] at this; omega
    obtain ⟨q8, x, c', H1, H', d1, d2, d3, d4, d5, d6, d7, d8⟩ := h.add (lim := M.lim) hM (outsN_get hsn) (k : Int) hroom
    rw [← outsN_succ hlt hs hsn] at d6
    obtain ⟨H2, cs2, e1, e2, e3⟩ := ih (k + 1) H' _ (by omega) ⟨Nat.le_trans g.next d7, fun i hi => by rw [d8 i hi, g.keep i hi]⟩ d6
    refine ⟨H2, cs2, ?_, e2, e3⟩
    rw [f53_1_eq]
    simp only [show ((k : Int) < es.length) by omega, decide_true, if_true, c1, c2, c3, c4, Option.bind_some, asI_int, hs, d1, d2, d3, d4, d5, wrap_succ (show k ≤ 1000000000 by omega)]
    exact e1
theorem f53_is {H : Heap} (hM : M.lim ≤ H.next) {n : Int} {ci ce : C} {es : List E} (h0 : 0 ≤ n) (h1 : n ≤ 1000000) (he : Eds H ce es) (hl : es.length ≤ 1000000) (hr : ∀ e ∈ es, 0 ≤ e.f ∧ e.f < n) :
    ∃ c H', f53 M n ci ce H = some (.c c, H') ∧ Grow H H' ∧ Lists H' c ((List.range n.toNat).map fun s : Nat => outs es (s : Int)) := by
  obtain ⟨m, rfl⟩ := Int.eq_ofNat_of_zero_le h0
  have hm := OLists.made H (Nat.le_refl H.next) m
  have e0 : List.replicate m ([] : List Int) = outsN es m 0 := by
    refine List.ext_getElem? fun t => ?_
    by_cases ht : t < m
    · rw [outsN_get ht]; simp [ht, idxs]
    · rw [List.getElem?_eq_none (by simp; omega), List.getElem?_eq_none (by simp [outsN]; omega)]
  rw [e0] at hm
  obtain ⟨H', cs', a1, a2, a3⟩ := f53_1_is (M := M) hM (n := m) he hl hr es.length 0 _ _ (by omega) (.alloc H _) hm
  refine ⟨.slice H.next 0 m, H', ?_, a2, ?_⟩
  · rw [f53_eq]
    simp only [show (0 : Int) ≤ (m : Int) ∧ (m : Int) ≤ 2 ^ 36 by omega, and_self, if_true, he.len, Option.bind_some, Int.toNat_natCast]
    exact a1
  · have := a3.lists
    simpa [outsN, outs, List.take_length] using this

/-! ### weights -/
def badW (n : Int) : Bool := !decide (0 ≤ n ∧ n ≤ 100)
theorem f73_1_is {c : C} {l : List Int} {H : Heap} (h : Ints H c l) (hn : l.length ≤ 1000000) : ∀ (d k : Nat), k + d = l.length → ∃ j : Int, f73_1 M c (.func 71 [] []) (l.length : Int) (k : Int) H = some (.c (.int .i64 j), H) ∧ (0 ≤ j ↔ (l.drop k).any badW = true) := by
  intro d
  induction d with
  | zero =>
    intro k hk
    rw [f73_1_eq, List.drop_of_length_le (by omega)]
    simp only [show ¬ ((k : Int) < l.length) by omega, decide_false, Bool.false_eq_true, if_false]
    exact ⟨-1, rfl, by simp⟩
  | succ d ih =>
    intro k hk
    have hlt : k < l.length := by omega
    obtain ⟨q, h1, h2⟩ := h.read (List.getElem?_eq_getElem hlt)
    have hc : ∀ x, mcall M 71 [.c (.int .i64 x)] H = some (.c (.bool (badW x)), H) := fun x => by
      show f71 M x H = _
      rw [f71_eq]
      simp only [f44_is, Option.bind_some, asC_c, asB_bool, badW]
    rw [f73_1_eq, List.drop_eq_getElem_cons hlt]
    simp only [show ((k : Int) < l.length) by omega, decide_true, if_true, h1, h2, Option.bind_some, asI_int, wrap_succ (show k ≤ 1000000000 by omega), asF_func, List.map_nil, List.nil_append, List.append_nil, hc, asC_c, asB_bool, List.any_cons]
    cases hb : badW l[k] with
    | true =>
      simp only [if_true, Bool.true_or]
      exact ⟨_, rfl, by simp⟩
    | false =>
      simp only [Bool.false_eq_true, if_false, Bool.false_or]
      exact ih (k + 1) (by omega)
def weightsE (l : List Int) : Int := if l.length = 12 then (if l.any badW = true then 3 else 0) else 6
theorem f52_is {c : C} {l : List Int} {H : Heap} (h : Ints H c l) (hn : l.length ≤ 1000000) : ∃ H', f52 M c H = some (.c (.int .i64 (weightsE l)), H') ∧ Grow H H' := by
  obtain ⟨j, i1, i2⟩ := f73_1_is (M := M) h hn l.length 0 (by omega)
  have e0 : ((0 : Nat) : Int) = 0 := rfl
  rw [e0] at i1
  rw [List.drop_zero] at i2
  have hb : decide (0 ≤ j) = l.any badW := by
    cases hc : l.any badW with
    | true => rw [decide_eq_true_eq]; exact i2.2 hc
    | false => rw [decide_eq_false_iff_not]; intro h; rw [i2.1 h] at hc; cases hc
  have h70 : f70 M c (.func 71 [] []) H = some (.c (.bool (l.any badW)), H) := by
    rw [f70_eq, f73_eq]
    simp only [h.len, Option.bind_some, i1, asC_c, asI_int, hb]
  have hl := OInts.lit H (Nat.le_refl H.next) [if (decide ((l.length : Int) = 12)) = true then 0 else 6, if (!l.any badW) = true then 0 else 3] rfl (n := 2) rfl
  have he := f41_is (M := M) hl.ints (by simp)
  simp only [List.map_cons, List.map_nil] at he
  rw [f52_eq]
  simp only [h70, h.len, f43_is, Option.bind_some, asC_c, asI_int, asB_bool, he]
  have : firstErr [if (decide ((l.length : Int) = 12)) = true then 0 else 6, if (!l.any badW) = true then 0 else 3] = weightsE l := by
    unfold weightsE
    by_cases h12 : l.length = 12
    · cases l.any badW <;> simp [h12, firstErr]
    · have : ¬ ((l.length : Int) = 12) := by omega
      simp [h12, this, firstErr]
  rw [this]
  exact ⟨_, rfl, .alloc _ _⟩
theorem f24_1_is {c : C} {l : List Int} {H : Heap} (h : Ints H c l) (hn : l.length ≤ 1000000) : ∀ (d k : Nat), k + d = l.length → f24_1 M c (k : Int) H = some (.c (.int .i64 (if (l.drop k).any badW = true then 3 else 0)), H) := by
  intro d
  induction d with
  | zero =>
    intro k hk
    rw [f24_1_eq, List.drop_of_length_le (by omega)]
    simp only [h.len, Option.bind_some, show ¬ ((k : Int) < l.length) by omega, decide_false, Bool.false_eq_true, if_false, List.any_nil]
  | succ d ih =>
    intro k hk
    have hlt : k < l.length := by omega
    obtain ⟨q, h1, h2⟩ := h.read (List.getElem?_eq_getElem hlt)
    rw [f24_1_eq, List.drop_eq_getElem_cons hlt]
    simp only [h.len, show ((k : Int) < l.length) by omega, decide_true, if_true, h1, h2, Option.bind_some, asI_int, wrap_succ (show k ≤ 1000000000 by omega), f13_is, asC_c, asB_bool, List.any_cons, badW]
    by_cases hb : 0 ≤ l[k] ∧ l[k] ≤ 100
    · simp only [hb, and_self, decide_true, Bool.not_true, Bool.false_eq_true, if_false, Bool.false_or]
      exact ih (k + 1) (by omega)
    · simp only [hb, decide_false, Bool.not_false, if_true, Bool.true_or]
theorem f24_is {c : C} {l : List Int} {H : Heap} (h : Ints H c l) (hn : l.length ≤ 1000000) : f24 M c H = some (.c (.int .i64 (weightsE l)), H) := by
  rw [f24_eq]
  simp only [h.len, Option.bind_some, weightsE]
  by_cases h12 : l.length = 12
  · have : (l.length : Int) = 12 := by omega
    simp only [h12, show ((12 : Nat) : Int) = 12 from rfl, decide_true, Bool.not_true, Bool.false_eq_true, if_false, if_true]
    exact f24_1_is h hn l.length 0 (by omega)
  · have : ¬ ((l.length : Int) = 12) := by omega
    simp only [h12, this, decide_false, Bool.not_false, if_true, if_false]
end Go.Proofs.Ytnnjklkfcleleaa.R
