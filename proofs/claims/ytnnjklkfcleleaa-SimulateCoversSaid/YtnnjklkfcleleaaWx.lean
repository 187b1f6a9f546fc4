/-
  CHAPTER 20: DeleteFunc; steps that are not covered: the program; the law of covers.
-/
import Derived.Test.YtnnjklkfcleleaaWw
namespace Go.Proofs.Ytnnjklkfcleleaa.R
open Go Go.Proofs.Ytnnjklkfcleleaa.Vm
set_option linter.unusedVariables false
set_option linter.unusedSimpArgs false
variable {M : Mach}

/-! ### DeleteFunc -/
section del
variable {H0 : Heap} {p : Nat} {ct s : C} {T l : List Int}
/-- what is taken -/
def tk (T : List Int) (i : Int) : Bool := decide (0 < T.getD i.toNat 0)
theorem f61_is {H : Heap} (hp : H.get p = some (.cells 1 [ct])) (ht : Ints H ct T) {i : Int} (h0 : 0 ≤ i) (h1 : i.toNat < T.length) : mcall M 61 [.c (.int .i64 i), .c (.ptr p 0)] H = some (.c (.bool (tk T i)), H) := by
  show f61 M i (.ptr p 0) H = _
  obtain ⟨q, a1, a2⟩ := ht.readI h0 (getD_of h1 0)
  rw [f61_eq]
  simp only [asP_ptr, Option.bind_some, Heap.ld, hp, List.getElem?_cons_zero, a1]
  simp only [Heap.ld] at a2
  simp only [a2, Option.bind_some, asI_int, tk]
theorem f73_2_is {H : Heap} (hp : H.get p = some (.cells 1 [ct])) (ht : Ints H ct T) (hs : Ints H s l) (hin : ∀ i ∈ l, 0 ≤ i ∧ i.toNat < T.length) (hn : l.length ≤ 1000000) : ∀ (d k : Nat), k + d = l.length →
    ∃ j : Int, f73_1 M s (.func 61 [] [.ptr p 0]) (l.length : Int) (k : Int) H = some (.c (.int .i64 j), H) ∧ ((j = -1 ∧ ∀ i ∈ l.drop k, tk T i = false) ∨ ∃ (m : Nat) (v : Int), j = (m : Int) ∧ k ≤ m ∧ l[m]? = some v ∧ tk T v = true ∧ ∀ i ∈ (l.take m).drop k, tk T i = false) := by
  intro d
  induction d with
  | zero =>
    intro k hk
    refine ⟨-1, ?_, .inl ⟨rfl, by rw [List.drop_of_length_le (by omega)]; simp⟩⟩
    rw [f73_1_eq]
    simp only [show ¬ ((k : Int) < l.length) by omega, decide_false, Bool.false_eq_true, if_false]
  | succ d ih =>
    intro k hk
    have hlt : k < l.length := by omega
    obtain ⟨q, h1, h2⟩ := hs.read (List.getElem?_eq_getElem hlt)
    obtain ⟨i0, i1⟩ := hin _ (List.getElem_mem hlt)
    have hc := f61_is (M := M) hp ht i0 i1
    cases hb : tk T l[k] with
    | true =>
      refine ⟨(k : Int), ?_, .inr ⟨k, l[k], rfl, Nat.le_refl _, List.getElem?_eq_getElem hlt, hb, by rw [List.drop_of_length_le (by rw [List.length_take]; omega)]; simp⟩⟩
      rw [f73_1_eq]
      simp only [show ((k : Int) < l.length) by omega, decide_true, if_true, h1, h2, Option.bind_some, asI_int, asF_func, List.map_nil, List.nil_append, List.map_cons, List.cons_append, hc, asC_c, asB_bool, hb]
    | false =>
      obtain ⟨j, j1, j2⟩ := ih (k + 1) (by omega)
      refine ⟨j, ?_, ?_⟩
      · rw [f73_1_eq]
        simp only [show ((k : Int) < l.length) by omega, decide_true, if_true, h1, h2, Option.bind_some, asI_int, asF_func, List.map_nil, List.nil_append, List.map_cons, List.cons_append, hc, asC_c, asB_bool, hb, Bool.false_eq_true, if_false, wrap_succ (show k ≤ 1000000000 by omega)]
        exact j1
      · rcases j2 with ⟨e, h3⟩ | ⟨m, v, e, m1, m2, m3, h3⟩
        · refine .inl ⟨e, fun i hi => ?_⟩
          rw [List.drop_eq_getElem_cons hlt] at hi
          rcases List.mem_cons.1 hi with rfl | hi
          · exact hb
          · exact h3 i hi
        · refine .inr ⟨m, v, e, by omega, m2, m3, fun i hi => ?_⟩
          have hkm : k < (l.take m).length := by rw [List.length_take]; have := (List.getElem?_eq_some_iff.1 m2).1; omega
          rw [List.drop_eq_getElem_cons hkm] at hi
          rcases List.mem_cons.1 hi with rfl | hi
          · simpa using hb
          · exact h3 i hi
/-- the end is cleared, the beginning returned -/
theorem cut_is {H : Heap} {b lim : Nat} {cur : List Int} (h : OInts H b s cur) (hb : lim ≤ b) {i : Nat} (hi : i < cur.length) :
    ∃ c11 H12 c13, Heap.sub lim H 1 s (i : Int) none = some c11 ∧ Heap.clr lim H [.int .i64 0] c11 = some H12 ∧ Heap.sub lim H12 1 s 0 (some (i : Int)) = some c13 ∧ Ints H12 c13 (cur.take i) ∧ Kept s H H12 := by
  obtain ⟨hbn, hr, h0 | ⟨id, o, cs, he, h2, h3, h4, h5, h6⟩⟩ := h
  · have := h0.2; simp at this; subst this; simp at hi
  · simp only [List.length_map] at he h5 h6
    subst he
    have hbad : ∀ H' : Heap, (∃ cs', H'.get id = some (.cells 1 cs')) → ¬ (lim ≤ id ∧ H'.szBad id 1 = true) := fun H' ⟨cs', hg⟩ ⟨_, k2⟩ => by simp [Heap.szBad, hg] at k2
    have hsub1 : Heap.sub lim H 1 (.slice id o cur.length) (i : Int) none = some (.slice id (o + i) (cur.length - i)) := by
      simp only [Heap.sub, hbad H ⟨_, h4⟩, if_false, Option.getD_none]
      rw [if_pos (by omega)]
      simp
    have hz : (List.replicate (cur.length - i) [C.int .i64 0]).flatten.length = cur.length - i := by simp
    have hst : H.st lim id (o + i) (List.replicate (cur.length - i) [C.int .i64 0]).flatten = some (H.put id (.cells 1 (splice cs (o + i) (List.replicate (cur.length - i) [C.int .i64 0]).flatten))) := by
      simp only [Heap.st, h4]
      rw [if_pos ⟨by omega, by rw [hz]; omega⟩]
    have hlen : (cur.take i).length = i := by rw [List.length_take]; omega
    refine ⟨_, H.put id (.cells 1 (splice cs (o + i) (List.replicate (cur.length - i) [C.int .i64 0]).flatten)), .slice id o i, hsub1, ?_, ?_, ?_, ⟨Nat.le_refl _, fun k hk hne => hput_other fun e => hne o cur.length (by rw [e])⟩⟩
    · simp only [Heap.clr]
      rw [if_neg (by omega)]; exact hst
    · simp only [Heap.sub, hbad _ ⟨_, put_same _ _ _⟩, if_false, Option.getD_some]
      rw [if_pos (by omega)]
      simp
    · refine ⟨fun r hr' => by obtain ⟨x, _, rfl⟩ := List.mem_map.1 hr'; rfl, .inr ⟨id, o, 1, _, by rw [List.length_map, hlen], h3, put_same _ _ _, by rw [splice_length, List.length_map, hlen]; omega, ?_⟩⟩
      rw [List.length_map, hlen]
      have hcs : cs = cs.take (o + i) ++ ((cs.drop (o + i)).take (cur.length - i)) ++ cs.drop (o + cur.length) := by
        have e1 : cs = cs.take (o + i) ++ cs.drop (o + i) := (List.take_append_drop _ cs).symm
        have e2 : cs.drop (o + i) = (cs.drop (o + i)).take (cur.length - i) ++ (cs.drop (o + i)).drop (cur.length - i) := (List.take_append_drop _ _).symm
        rw [List.drop_drop, show o + i + (cur.length - i) = o + cur.length by omega] at e2
        conv => lhs; rw [e1, e2]
        rw [List.append_assoc]
      have hpl : (cs.take (o + i)).length = o + i := by rw [List.length_take]; omega
      have hsp : splice cs (o + i) (List.replicate (cur.length - i) [C.int .i64 0]).flatten = cs.take (o + i) ++ (List.replicate (cur.length - i) [C.int .i64 0]).flatten ++ cs.drop (o + cur.length) := by
        have := splice_mid (List.replicate (cur.length - i) [C.int .i64 0]).flatten ((cs.drop (o + i)).take (cur.length - i)) (cs.take (o + i)) (cs.drop (o + cur.length)) (by rw [hz, List.length_take, List.length_drop]; omega)
        rw [← hcs, hpl] at this
        exact this
      rw [hsp, List.append_assoc, List.drop_append_of_le_length (by omega), List.take_append_of_le_length (by rw [List.length_drop]; omega)]
      have e3 : ((cs.take (o + i)).drop o).take (i * 1) = ((cs.drop o).take (cur.length * 1)).take (i * 1) := by
        rw [List.take_take, Nat.min_eq_left (by omega), List.drop_take, List.take_take]
        congr 1; omega
      rw [e3, h6, flat_take (sz := 1) (fun r hr' => by obtain ⟨x, _, rfl⟩ := List.mem_map.1 hr'; rfl) (by simp; omega), List.map_take]
theorem f60_1_is (hM : M.lim ≤ H0.next) (hp : H0.get p = some (.cells 1 [ct])) (hpl : p < H0.next) (ht : Ints H0 ct T) (hin : ∀ i ∈ l, 0 ≤ i ∧ i.toNat < T.length) (hn : l.length ≤ 1000000) : ∀ (d j i : Nat) (H : Heap) (cur : List Int), j + d = l.length → i < j → Grow H0 H → OInts H H0.next s cur → cur.length = l.length →
    cur.take i = (l.take j).filter (fun k => !tk T k) → cur.drop j = l.drop j →
    ∃ c H', f60_1 M s (.func 61 [] [.ptr p 0]) (i : Int) (j : Int) H = some (.c c, H') ∧ Grow H0 H' ∧ Ints H' c (l.filter fun k => !tk T k) := by
  intro d
  induction d with
  | zero =>
    intro j i H cur hj hij g h hl h1 h2
    obtain ⟨c11, H12, c13, a1, a2, a3, a4, a5⟩ := cut_is (lim := M.lim) h hM (i := i) (by omega)
    refine ⟨c13, H12, ?_, Own.kept_grow h g a5, by rw [h1, List.take_of_length_le (by omega)] at a4; exact a4⟩
    rw [f60_1_eq]
    simp only [h.ints.len, hl, Option.bind_some, show ¬ ((j : Int) < l.length) by omega, decide_false, Bool.false_eq_true, if_false, a1, a2, a3]
  | succ d ih =>
    intro j i H cur hj hij g h hl h1 h2
    have hlt : j < l.length := by omega
    have hcj : cur[j]? = some l[j] := by
      have e1 : cur[j]? = (cur.drop j)[0]? := by simp
      rw [e1, h2, List.getElem?_drop]; simp
    obtain ⟨q, a1, a2⟩ := h.ints.read hcj
    obtain ⟨i0, i1⟩ := hin _ (List.getElem_mem hlt)
    have hc := f61_is (M := M) (by rw [g.keep p hpl]; exact hp) (ht.grow g) i0 i1
    have hdrop : ∀ cur' : List Int, cur'.drop j = l.drop j → cur'.drop (j + 1) = l.drop (j + 1) := fun cur' h => by
      have := congrArg (List.drop 1) h
      simpa [List.drop_drop] using this
    cases hb : tk T l[j] with
    | true =>
      obtain ⟨c, H', z1, z2, z3⟩ := ih (j + 1) i H cur (by omega) (by omega) g h hl (by rw [List.take_succ_eq_append_getElem hlt, List.filter_append]; simp [hb, h1]) (hdrop cur h2)
      refine ⟨c, H', ?_, z2, z3⟩
      rw [f60_1_eq]
      simp only [h.ints.len, hl, Option.bind_some, show ((j : Int) < l.length) by omega, decide_true, if_true, a1, a2, asI_int, asF_func, List.map_nil, List.nil_append, List.map_cons, List.cons_append, hc, asC_c, asB_bool, hb, Bool.not_true, Bool.false_eq_true, if_false]
      rw [f60_2_eq, wrap_succ (show j ≤ 1000000000 by omega)]; exact z1
    | false =>
      obtain ⟨q9, H10, b1, b2, b3, b4, b5⟩ := h.set (lim := M.lim) hM (j := i) (by omega) l[j]
      have hset1 : (cur.set i l[j]).take (i + 1) = (l.take (j + 1)).filter (fun k => !tk T k) := by
        rw [List.take_succ_eq_append_getElem hlt, List.filter_append, ← h1]
        have hi' : i < (cur.set i l[j]).length := by simp; omega
        rw [List.take_succ_eq_append_getElem hi']
        simp [hb, List.take_set_of_le]
      have hset2 : (cur.set i l[j]).drop (j + 1) = l.drop (j + 1) := by
        rw [List.drop_set_of_lt (by omega)]; exact hdrop cur h2
      have heq : f60_1 M s (.func 61 [] [.ptr p 0]) (i : Int) (j : Int) H = f60_1 M s (.func 61 [] [.ptr p 0]) ((i + 1 : Nat) : Int) ((j + 1 : Nat) : Int) H10 := by
        rw [f60_1_eq]
        simp only [h.ints.len, hl, Option.bind_some, show ((j : Int) < l.length) by omega, decide_true, if_true, a1, a2, asI_int, asF_func, List.map_nil, List.nil_append, List.map_cons, List.cons_append, hc, asC_c, asB_bool, hb, Bool.not_false, b1, b2]
        rw [f60_2_eq, wrap_succ (show j ≤ 1000000000 by omega), wrap_succ (show i ≤ 1000000000 by omega)]
      obtain ⟨c, H', z1, z2, z3⟩ := ih (j + 1) (i + 1) H10 _ (by omega) (by omega) (Own.kept_grow h g b4) b3 (by simp [hl]) hset1 hset2
      exact ⟨c, H', by rw [heq]; exact z1, z2, z3⟩
theorem f60_is (hM : M.lim ≤ H0.next) (hp : H0.get p = some (.cells 1 [ct])) (hpl : p < H0.next) (ht : Ints H0 ct T) (hin : ∀ i ∈ l, 0 ≤ i ∧ i.toNat < T.length) (hn : l.length ≤ 1000000) {H : Heap} (g : Grow H0 H) (h : OInts H H0.next s l) :
    ∃ c H', f60 M s (.func 61 [] [.ptr p 0]) H = some (.c c, H') ∧ Grow H0 H' ∧ Ints H' c (l.filter fun k => !tk T k) := by
  obtain ⟨j, j1, j2⟩ := f73_2_is (M := M) (by rw [g.keep p hpl]; exact hp) (ht.grow g) h.ints hin hn l.length 0 (by omega)
  have e0 : ((0 : Nat) : Int) = 0 := rfl
  rw [e0] at j1
  rw [f60_eq, f73_eq]
  simp only [h.ints.len, Option.bind_some, j1, asC_c, asI_int]
  rcases j2 with ⟨rfl, h3⟩ | ⟨m, v, rfl, m1, m2, m3, h3⟩
  · refine ⟨s, H, by simp, g, ?_⟩
    have : l.filter (fun k => !tk T k) = l := List.filter_eq_self.2 fun a ha => by rw [List.drop_zero] at h3; simp [h3 a ha]
    rw [this]; exact h.ints
  · obtain ⟨hlt, hv⟩ := List.getElem?_eq_some_iff.1 m2
    obtain ⟨c, H', z1, z2, z3⟩ := f60_1_is (M := M) (s := s) hM hp hpl ht hin hn (l.length - (m + 1)) (m + 1) m H l (by omega) (by omega) g h rfl (by
      rw [List.take_succ_eq_append_getElem hlt, List.filter_append, hv]
      have : (l.take m).filter (fun k => !tk T k) = l.take m := List.filter_eq_self.2 fun a ha => by rw [List.drop_zero] at h3; simp [h3 a ha]
      rw [this]; simp [m3]) rfl
    refine ⟨c, H', ?_, z2, z3⟩
    simp only [show ¬ ((m : Int) = -1) by omega, decide_false, Bool.false_eq_true, if_false, wrap_succ (show m ≤ 1000000000 by omega)]
    exact z1
end del

/-! ### steps that are not covered: the program -/
theorem cov_nonneg {n : Nat} {es : List E} {ws : List Wk} (h1 : ∀ w ∈ ws, ∀ i ∈ w.st, okI es i) (h2 : (ws.map Wk.st).flatten.length ≤ 1000000000) (k : Nat) : 0 ≤ (cov n es ws).2.getD k 0 := by
  rw [cov_count h1 h2]; omega
theorem unc_filter {es : List E} {far T : List Int} (hT : ∀ k, 0 ≤ T.getD k 0) : ∀ (r : List E) (k : Nat), (unc es far [] k r).filter (fun i => !tk T i) = unc es far T k r
  | [], k => rfl
  | e :: r, k => by
    have ih := unc_filter hT (es := es) (far := far) r (k + 1)
    have hk := hT k
    by_cases hf : far.getD e.f.toNat 0 = -1
    · have c1 : ¬ (far.getD e.f.toNat 0 ≠ -1 ∧ ([] : List Int).getD k 0 = 0) := fun h => h.1 hf
      have c2 : ¬ (far.getD e.f.toNat 0 ≠ -1 ∧ T.getD k 0 = 0) := fun h => h.1 hf
      simp only [unc]; rw [if_neg c1, if_neg c2]; exact ih
    · have c1 : far.getD e.f.toNat 0 ≠ -1 ∧ ([] : List Int).getD k 0 = 0 := ⟨hf, by simp⟩
      by_cases ht : T.getD k 0 = 0
      · have e1 : tk T (k : Int) = false := decide_eq_false (by rw [Int.toNat_natCast, ht]; omega)
        simp only [unc]; rw [if_pos c1, if_pos ⟨hf, ht⟩, List.filter_cons, e1, ih]; simp
      · have e1 : tk T (k : Int) = true := decide_eq_true (by rw [Int.toNat_natCast]; omega)
        simp only [unc]; rw [if_pos c1, if_neg (fun h => ht h.2), List.filter_cons, e1, ih]; simp
section unc
variable {n : Int} {ci ce lc : C} {es : List E} {il : List Int} {ps : List (Wk × C)}
/-- what walks must be for the law -/
structure Ws (n : Int) (il : List Int) (es : List E) (ps : List (Wk × C)) : Prop where
  g : isGraph n il es = true
  wi : ∀ p ∈ ps, wIn n.toNat es p.1 ∧ p.1.st.length ≤ 1000
  len : ps.length ≤ 60
theorem Ws.flat (h : Ws n il es ps) : ((ps.map Prod.fst).map Wk.st).flatten.length ≤ 60000 := by
  have hfl : ∀ ws : List (Wk × C), (∀ p ∈ ws, p.1.st.length ≤ 1000) → ((ws.map Prod.fst).map Wk.st).flatten.length ≤ ws.length * 1000 := by
    intro ws
    induction ws with
    | nil => intro _; simp
    | cons w ws ihw =>
      intro h
      have := ihw fun p hp => h p (by simp [hp])
      have := h w (by simp)
      simp only [List.map_cons, List.flatten_cons, List.length_append, List.length_cons]
      omega
  have := hfl ps fun p hp => (h.wi p hp).2
  have := h.len
  omega
theorem Ws.okk (h : Ws n il es ps) : ∀ w ∈ ps.map Prod.fst, ∀ i ∈ w.st, okI es i := fun w hw i hi => by
  obtain ⟨p, hp, rfl⟩ := List.mem_map.1 hw
  exact (h.wi p hp).1.2.2 i hi
theorem f38_is {H : Heap} (hM : M.lim ≤ H.next) (hi : Ints H ci il) (he : Eds H ce es) (h0 : il.length ≤ 2000) (h1 : es.length ≤ 2000) (hw : Wks H lc ps) (hps : ps.length ≤ 1000000) (hin : ∀ p ∈ ps, p.1.st.length ≤ 1000000) (hgood : wErr n il es (ps.map Prod.fst) = 0 → Ws n il es ps) :
    ∃ c H', f38 M n ci ce lc H = some (.tuple [.c c, .c (.int .i64 (wErr n il es (ps.map Prod.fst)))], H') ∧ Grow H H' ∧ Ints H' c (if wErr n il es (ps.map Prod.fst) = 0 then unc es (distOf n il es) (cov n.toNat es (ps.map Prod.fst)).2 0 es else []) := by
  obtain ⟨H1, a1, a2⟩ := f58_is (M := M) (n := n) hi he (by omega) (by omega) hw hps hin
  rw [f38_eq]
  simp only [a1, Option.bind_some, asC_c, asI_int]
  by_cases hz : wErr n il es (ps.map Prod.fst) = 0
  rotate_left
  · refine ⟨.nilSlice, H1, ?_, a2, by rw [if_neg hz]; exact Ints.nil _⟩
    simp only [hz, decide_false, Bool.not_false, if_true]
  have G := hgood hz
  obtain ⟨hn, hes, hini, ge⟩ := isGraph_good G.g
  obtain ⟨c0, c1, H2, b1, b2⟩ := f59_is (M := M) (n := n) (ci := ci) (Nat.le_trans hM a2.next) hn (he.grow a2) ge (by omega) (hw.grow a2) (fun p hp => ⟨(G.wi p hp).1, by have := (G.wi p hp).2; omega⟩) hps
  have g2 := a2.trans b2.g
  have hst : Heap.st M.lim (H2.alloc (.cells 1 [.nilSlice])) H2.next 0 [c1] = some ((H2.alloc (.cells 1 [.nilSlice])).put H2.next (.cells 1 [c1])) := by
    simp only [Heap.st, alloc_new]
    rw [if_pos ⟨Nat.le_trans hM g2.next, by simp⟩]
    rfl
  have g3 : Grow H2 ((H2.alloc (.cells 1 [.nilSlice])).put H2.next (.cells 1 [c1])) := ⟨by simp, fun i hi => by rw [hput_other (by omega), alloc_old hi]⟩
  have hget : ((H2.alloc (.cells 1 [.nilSlice])).put H2.next (.cells 1 [c1])).get H2.next = some (.cells 1 [c1]) := put_same _ _ _
  have hlt3 : H2.next < ((H2.alloc (.cells 1 [.nilSlice])).put H2.next (.cells 1 [c1])).next := by simp
  generalize (H2.alloc (.cells 1 [.nilSlice])).put H2.next (.cells 1 [c1]) = H3 at hst g3 hget hlt3
  have gg := g2.trans g3
  obtain ⟨N, rfl⟩ := Int.eq_ofNat_of_zero_le hn.1
  have hin' : ∀ s ∈ il, 0 ≤ s ∧ s.toNat < N := fun s hs => by have := hini s hs; omega
  have hsort : il.Pairwise (· < ·) := by
    have hg := G.g
    simp only [isGraph, Bool.and_eq_true] at hg
    exact (initOK_sorted hg.1.2).1
  obtain ⟨d, b, K, V, hbfs, B⟩ := bfs_spec (N := N) (es := es) ge hin' hsort
  have hrd : distOf (N : Int) il es = d := by
    unfold distOf
    rw [Int.toNat_natCast]
    exact B.rounds ge (by simp [dist0]) (fun u u0 u1 => dist0_get u u0 u1)
  obtain ⟨ca, H4, d1, d2, d3⟩ := f56_is (M := M) (Nat.le_trans hM gg.next) (ci := ci) hn (he.grow gg) ge hes (hi.grow gg) h0 hini (F := N + 1) (by omega) (by rw [Int.toNat_natCast]; exact hbfs) (by rw [Int.toNat_natCast]; exact B.dl)
  obtain ⟨cl, ctl⟩ := cov_length (N : Int).toNat es (ps.map Prod.fst)
  obtain ⟨c, H5, e1, e2, e3⟩ := f60_is (M := M) (Nat.le_trans hM gg.next) hget hlt3 (b2.o1.ints.grow g3) (fun i hi => by
    rw [unc_ok] at hi
    have := okI_lt hi.1
    omega) (by have := unc_len (es := es) (far := d) (T := []) es 0; omega) d2 d3
  rw [unc_filter (fun k => cov_nonneg G.okk (by have := G.flat; omega) k)] at e3
  refine ⟨c, H5, ?_, gg.trans e2, by rw [if_pos hz, hrd]; exact e3⟩
  simp only [hz, decide_true, Bool.not_true, Bool.false_eq_true, if_false, b1, Option.bind_some, asA_agg, headC_cons, List.drop_succ_cons, List.drop_zero, List.length_nil, if_true, hst, d1, asC_c, e1]
theorem f36_is {H : Heap} (hM : M.lim ≤ H.next) (hi : Ints H ci il) (he : Eds H ce es) (h0 : il.length ≤ 2000) (h1 : es.length ≤ 2000) (hw : Wks H lc ps) (hps : ps.length ≤ 1000000) (hin : ∀ p ∈ ps, p.1.st.length ≤ 1000000) (hgood : wErr n il es (ps.map Prod.fst) = 0 → Ws n il es ps) :
    ∃ c0 c1 H', f36 M n ci ce lc H = some (.tuple [.agg [c0, c1], .c (.int .i64 (wErr n il es (ps.map Prod.fst)))], H') ∧ Grow H H' ∧ Ints H' c0 (if wErr n il es (ps.map Prod.fst) = 0 then (cov n.toNat es (ps.map Prod.fst)).1 else []) ∧ Ints H' c1 (if wErr n il es (ps.map Prod.fst) = 0 then (cov n.toNat es (ps.map Prod.fst)).2 else []) := by
  obtain ⟨H1, a1, a2⟩ := f58_is (M := M) (n := n) hi he (by omega) (by omega) hw hps hin
  rw [f36_eq]
  simp only [a1, Option.bind_some, asC_c, asI_int]
  by_cases hz : wErr n il es (ps.map Prod.fst) = 0
  rotate_left
  · refine ⟨.nilSlice, .nilSlice, H1, ?_, a2, by rw [if_neg hz]; exact Ints.nil _, by rw [if_neg hz]; exact Ints.nil _⟩
    simp only [hz, decide_false, Bool.not_false, if_true]
  have G := hgood hz
  obtain ⟨hn, hes, hini, ge⟩ := isGraph_good G.g
  obtain ⟨c0, c1, H2, b1, b2⟩ := f59_is (M := M) (n := n) (ci := ci) (Nat.le_trans hM a2.next) hn (he.grow a2) ge (by omega) (hw.grow a2) (fun p hp => ⟨(G.wi p hp).1, by have := (G.wi p hp).2; omega⟩) hps
  refine ⟨c0, c1, H2, ?_, a2.trans b2.g, by rw [if_pos hz]; exact b2.o0.ints, by rw [if_pos hz]; exact b2.o1.ints⟩
  simp only [hz, decide_true, Bool.not_true, Bool.false_eq_true, if_false, b1, Option.bind_some, asA_agg, headC_cons, List.drop_succ_cons, List.drop_zero, List.length_nil, if_true]
end unc
end Go.Proofs.Ytnnjklkfcleleaa.R
