/-
  READING AND WRITING OBJECTS: rows of cells behind a slice.
-/
import Derived.Test.YtnnjklkfcleleaaVp
import Derived.IntWalk
namespace Go.Proofs.Ytnnjklkfcleleaa.Vm
open Go
set_option linter.unusedVariables false
set_option linter.unusedSimpArgs false

@[simp] theorem asI_int (k : IntKind) (n : Int) : C.asI k (.int k n) = some n := by simp [C.asI]
@[simp] theorem asB_bool (b : Bool) : C.asB (.bool b) = some b := rfl
@[simp] theorem asS_str (b : ByteArray) : C.asS (.str b) = some b := rfl
@[simp] theorem asC_c (x : C) : V.asC (.c x) = some x := rfl
@[simp] theorem asA_agg (x : List C) : V.asA (.agg x) = some x := rfl
@[simp] theorem ext_tuple (vs : List V) (i : Nat) : V.ext (.tuple vs) i = vs[i]? := rfl
@[simp] theorem headC_cons (x : C) (xs : List C) : headC (x :: xs) = some x := rfl
@[simp] theorem asP_ptr (i o : Nat) : V.asP (.c (.ptr i o)) = some (i, o) := rfl
@[simp] theorem asF_func (f : FuncId) (a b : List C) : C.asF (.func f a b) = some (f, a, b) := rfl
@[simp] theorem len_nil : C.len .nilSlice = some 0 := rfl
@[simp] theorem len_slice (i o n : Nat) : C.len (.slice i o n) = some n := rfl
@[simp] theorem withP_ptr {R : Type} (i o : Nat) (K : Nat → Nat → Option R) : withP (.ptr i o) K = K i o := rfl
@[simp] theorem isNil_nilSlice : isNil .slice .nilSlice = some true := rfl
@[simp] theorem isNil_slice (i o n : Nat) : isNil .slice (.slice i o n) = some false := rfl

theorem wrap_in {n : Int} (h : -9223372036854775808 ≤ n) (h' : n ≤ 9223372036854775807) : IntKind.wrap .i64 n = n := IntWalk.i64_in n ⟨h, h'⟩

/-! ### objects -/
@[simp] theorem alloc_next (H : Heap) (o : Obj) : (H.alloc o).next = H.next + 1 := rfl
@[simp] theorem put_next (H : Heap) (i : Nat) (o : Obj) : (H.put i o).next = H.next := rfl
@[simp] theorem kill_next (H : Heap) (i : Nat) : (H.kill i).next = H.next := rfl
@[simp] theorem alloc_new (H : Heap) (o : Obj) : (H.alloc o).get H.next = some o := by simp [Heap.alloc]
theorem alloc_old {H : Heap} {o : Obj} {i : Nat} (h : i < H.next) : (H.alloc o).get i = H.get i := by
  simp only [Heap.alloc]; rw [if_neg (by omega)]
@[simp] theorem put_same (H : Heap) (o : Obj) (i : Nat) : (H.put i o).get i = some o := by simp [Heap.put]
theorem hput_other {H : Heap} {o : Obj} {i j : Nat} (h : j ≠ i) : (H.put i o).get j = H.get j := by simp [Heap.put, h]
theorem hkill_other {H : Heap} {i j : Nat} (h : j ≠ i) : (H.kill i).get j = H.get j := by simp [Heap.kill, h]

/-- all that was there before is as it was -/
structure Grow (H H' : Heap) : Prop where
  next : H.next ≤ H'.next
  keep : ∀ i, i < H.next → H'.get i = H.get i
theorem Grow.refl (H : Heap) : Grow H H := ⟨Nat.le_refl _, fun _ _ => rfl⟩
theorem Grow.trans {H H' H'' : Heap} (h : Grow H H') (k : Grow H' H'') : Grow H H'' := ⟨Nat.le_trans h.next k.next, fun i hi => (k.keep i (Nat.lt_of_lt_of_le hi h.next)).trans (h.keep i hi)⟩
theorem Grow.alloc (H : Heap) (o : Obj) : Grow H (H.alloc o) := ⟨Nat.le_succ _, fun _ hi => alloc_old hi⟩
theorem Grow.to_alloc {H H' : Heap} (h : Grow H H') (o : Obj) : Grow H (H'.alloc o) := h.trans (.alloc _ _)

/-- the slice holds these rows of cells, of one size -/
def Sl (H : Heap) (c : C) (sz : Nat) (rows : List (List C)) : Prop :=
  (∀ r ∈ rows, r.length = sz) ∧ ((c = .nilSlice ∧ rows = []) ∨ ∃ i o z cs, c = .slice i o rows.length ∧ i < H.next ∧ H.get i = some (.cells z cs) ∧ o + rows.length * sz ≤ cs.length ∧ (cs.drop o).take (rows.length * sz) = rows.flatten)
/-- .. of an object of its own, not below b -/
def Own (H : Heap) (b : Nat) (c : C) (sz : Nat) (rows : List (List C)) : Prop :=
  b ≤ H.next ∧ (∀ r ∈ rows, r.length = sz) ∧ ((c = .nilSlice ∧ rows = []) ∨ ∃ i o cs, c = .slice i o rows.length ∧ b ≤ i ∧ i < H.next ∧ H.get i = some (.cells sz cs) ∧ o + rows.length * sz ≤ cs.length ∧ (cs.drop o).take (rows.length * sz) = rows.flatten)
theorem Own.sl {H : Heap} {b : Nat} {c : C} {sz : Nat} {rows : List (List C)} (h : Own H b c sz rows) : Sl H c sz rows :=
  ⟨h.2.1, h.2.2.imp id fun ⟨i, o, cs, h1, h2, h3, h4, h5⟩ => ⟨i, o, sz, cs, h1, h3, h4, h5⟩⟩
theorem Sl.grow {H H' : Heap} {c : C} {sz : Nat} {rows : List (List C)} (h : Sl H c sz rows) (g : Grow H H') : Sl H' c sz rows :=
  ⟨h.1, h.2.imp id fun ⟨i, o, z, cs, h1, h2, h3, h4⟩ => ⟨i, o, z, cs, h1, Nat.lt_of_lt_of_le h2 g.next, by rw [g.keep i h2]; exact h3, h4⟩⟩
theorem Sl.nil (H : Heap) (sz : Nat) : Sl H .nilSlice sz [] := ⟨fun _ h => (by cases h), .inl ⟨rfl, rfl⟩⟩
theorem Own.nil {H : Heap} {b : Nat} (h : b ≤ H.next) (sz : Nat) : Own H b .nilSlice sz [] := ⟨h, fun _ h => (by cases h), .inl ⟨rfl, rfl⟩⟩
theorem Own.low {H : Heap} {b b' : Nat} {c : C} {sz : Nat} {rows : List (List C)} (h : Own H b c sz rows) (hb : b' ≤ b) : Own H b' c sz rows :=
  ⟨Nat.le_trans hb h.1, h.2.1, h.2.2.imp id fun ⟨i, o, cs, h1, h2, h3⟩ => ⟨i, o, cs, h1, Nat.le_trans hb h2, h3⟩⟩
theorem Own.grow {H H' : Heap} {b : Nat} {c : C} {sz : Nat} {rows : List (List C)} (h : Own H b c sz rows) (g : Grow H H') : Own H' b c sz rows :=
  ⟨Nat.le_trans h.1 g.next, h.2.1, h.2.2.imp id fun ⟨i, o, cs, h1, h2, h3, h4, h5⟩ => ⟨i, o, cs, h1, h2, Nat.lt_of_lt_of_le h3 g.next, by rw [g.keep i h3]; exact h4, h5⟩⟩

theorem flat_len' {sz : Nat} : ∀ {rows : List (List C)}, (∀ r ∈ rows, r.length = sz) → rows.flatten.length = rows.length * sz
  | [], _ => by simp
  | r :: rs, h => by
    have := flat_len' (rows := rs) fun x hx => h x (by simp [hx])
    simp only [List.flatten_cons, List.length_append, List.length_cons, h r (by simp), this, Nat.add_mul]; omega
theorem flat_get {sz : Nat} : ∀ {rows : List (List C)} {j k : Nat} {r : List C} {x : C}, (∀ r ∈ rows, r.length = sz) → rows[j]? = some r → r[k]? = some x → rows.flatten[j * sz + k]? = some x
  | [], j, k, r, x, _, hj, _ => by simp at hj
  | r0 :: rs, 0, k, r, x, h, hj, hk => by
    simp only [List.getElem?_cons_zero, Option.some.injEq] at hj; subst hj
    have hlt := (List.getElem?_eq_some_iff.1 hk).1
    simp only [List.flatten_cons, Nat.zero_mul, Nat.zero_add]
    rw [List.getElem?_append_left hlt]; exact hk
  | r0 :: rs, j + 1, k, r, x, h, hj, hk => by
    simp only [List.getElem?_cons_succ] at hj
    have h0 := h r0 (by simp)
    have := flat_get (fun x hx => h x (by simp [hx])) hj hk
    simp only [List.flatten_cons]
    rw [List.getElem?_append_right (by rw [h0]; have := Nat.add_mul j 1 sz; omega), h0]
    have e : (j + 1) * sz + k - sz = j * sz + k := by rw [Nat.add_mul]; omega
    rw [e]; exact this

theorem Sl.len {H : Heap} {c : C} {sz : Nat} {rows : List (List C)} (h : Sl H c sz rows) : C.len c = some rows.length := by
  rcases h.2 with ⟨rfl, rfl⟩ | ⟨i, o, z, cs, rfl, _⟩ <;> rfl
theorem Sl.cellsOf {H : Heap} {c : C} {sz : Nat} {rows : List (List C)} (h : Sl H c sz rows) : H.cellsOf sz c = some rows.flatten := by
  rcases h.2 with ⟨rfl, rfl⟩ | ⟨i, o, z, cs, rfl, _, h2, h3, h4⟩
  · rfl
  · simp only [Heap.cellsOf, Heap.ldN, h2]; rw [if_pos h3, h4]
theorem Sl.elem {H : Heap} {c : C} {sz : Nat} {rows : List (List C)} (h : Sl H c sz rows) {j : Nat} {r : List C} (hj : rows[j]? = some r) :
    ∃ q, C.elem sz c (j : Int) = some q ∧ ∀ k x, r[k]? = some x → H.ld q.1 (q.2 + k) = some x := by
  have hlt := (List.getElem?_eq_some_iff.1 hj).1
  rcases h.2 with ⟨rfl, rfl⟩ | ⟨i, o, z, cs, rfl, _, h2, h3, h4⟩
  · simp at hj
  · refine ⟨(i, o + j * sz), by simp only [C.elem]; rw [if_pos (by omega)]; simp, fun k x hk => ?_⟩
    have hf := flat_get h.1 hj hk
    rw [← h4, List.getElem?_take] at hf
    split at hf
    · rw [List.getElem?_drop] at hf
      simp only [Heap.ld, h2]
      rw [← hf]; congr 1; omega
    · cases hf
theorem Sl.elemI {H : Heap} {c : C} {sz : Nat} {rows : List (List C)} (h : Sl H c sz rows) {i : Int} (h0 : 0 ≤ i) {r : List C} (hj : rows[i.toNat]? = some r) :
    ∃ q, C.elem sz c i = some q ∧ ∀ k x, r[k]? = some x → H.ld q.1 (q.2 + k) = some x := by
  have := h.elem hj
  rwa [Int.toNat_of_nonneg h0] at this

/-! ### lists of whole numbers -/
def rowI (n : Int) : List C := [.int .i64 n]
def Ints (H : Heap) (c : C) (l : List Int) : Prop := Sl H c 1 (l.map rowI)
def OInts (H : Heap) (b : Nat) (c : C) (l : List Int) : Prop := Own H b c 1 (l.map rowI)
theorem OInts.ints {H : Heap} {b : Nat} {c : C} {l : List Int} (h : OInts H b c l) : Ints H c l := h.sl
theorem Ints.grow {H H' : Heap} {c : C} {l : List Int} (h : Ints H c l) (g : Grow H H') : Ints H' c l := Sl.grow h g
theorem Ints.len {H : Heap} {c : C} {l : List Int} (h : Ints H c l) : C.len c = some l.length := by have := Sl.len h; simpa using this
theorem Ints.read {H : Heap} {c : C} {l : List Int} (h : Ints H c l) {j : Nat} {v : Int} (hj : l[j]? = some v) : ∃ q, C.elem 1 c (j : Int) = some q ∧ H.ld q.1 q.2 = some (.int .i64 v) := by
  obtain ⟨q, h1, h2⟩ := Sl.elem h (j := j) (r := rowI v) (by simp [hj])
  exact ⟨q, h1, h2 0 _ rfl⟩
theorem Ints.readI {H : Heap} {c : C} {l : List Int} (h : Ints H c l) {i : Int} (h0 : 0 ≤ i) {v : Int} (hj : l[i.toNat]? = some v) : ∃ q, C.elem 1 c i = some q ∧ H.ld q.1 q.2 = some (.int .i64 v) := by
  have := h.read hj
  rwa [Int.toNat_of_nonneg h0] at this
theorem Ints.nil (H : Heap) : Ints H .nilSlice [] := Sl.nil H 1
/-- a literal -/
theorem Own.lit (H : Heap) {b sz : Nat} (hb : b ≤ H.next) {rows : List (List C)} (h : ∀ r ∈ rows, r.length = sz) {cs : List C} (he : cs = rows.flatten) {n : Nat} (hn : n = rows.length) : Own (H.alloc (.cells sz cs)) b (.slice H.next 0 n) sz rows := by
  subst he hn
  exact ⟨by simp; omega, h, .inr ⟨H.next, 0, _, rfl, hb, by simp, alloc_new _ _, by rw [flat_len' h]; simp, by rw [List.drop_zero, List.take_of_length_le (by rw [flat_len' h]; exact Nat.le_refl _)]⟩⟩
theorem OInts.lit (H : Heap) {b : Nat} (hb : b ≤ H.next) (l : List Int) {cs : List C} (he : cs = l.map (.int .i64)) {n : Nat} (hn : n = l.length) : OInts (H.alloc (.cells 1 cs)) b (.slice H.next 0 n) l :=
  Own.lit H hb (fun r hr => by obtain ⟨x, _, rfl⟩ := List.mem_map.1 hr; rfl) (by rw [he]; induction l generalizing cs n with
    | nil => rfl
    | cons x xs ih => simp only [List.map_cons, List.flatten_cons, rowI, List.singleton_append, List.cons.injEq, true_and]; exact ih rfl rfl) (by simpa using hn)

/-- what an append, a write leaves as it was -/
structure Kept (s : C) (H H' : Heap) : Prop where
  next : H.next ≤ H'.next
  keep : ∀ i, i < H.next → (∀ o n, s ≠ .slice i o n) → H'.get i = H.get i
theorem Own.kept_grow {H0 H H' : Heap} {s : C} {sz : Nat} {rows : List (List C)} (h : Own H H0.next s sz rows) (g : Grow H0 H) (k : Kept s H H') : Grow H0 H' := by
  refine ⟨Nat.le_trans g.next k.next, fun i hi => ?_⟩
  rw [k.keep i (Nat.lt_of_lt_of_le hi g.next) ?_, g.keep i hi]
  intro o n e
  rcases h.2.2 with ⟨h1, _⟩ | ⟨i', o', cs, h1, h2, _⟩
  · rw [h1] at e; cases e
  · rw [h1] at e; cases e; omega
/-- slices of different objects -/
def Apart (s c : C) : Prop := ∀ i o n p m, s = .slice i o n → c = .slice i p m → False
theorem Sl.kept {H H' : Heap} {s c : C} {sz : Nat} {rows : List (List C)} (h : Sl H c sz rows) (k : Kept s H H') (ha : Apart s c) : Sl H' c sz rows :=
  ⟨h.1, h.2.imp id fun ⟨i, o, z, cs, h1, h2, h3, h4⟩ => ⟨i, o, z, cs, h1, Nat.lt_of_lt_of_le h2 k.next, by rw [k.keep i h2 (fun p m e => ha i p m o _ e h1)]; exact h3, h4⟩⟩
theorem Own.kept {H H' : Heap} {s c : C} {b sz : Nat} {rows : List (List C)} (h : Own H b c sz rows) (k : Kept s H H') (ha : Apart s c) : Own H' b c sz rows :=
  ⟨Nat.le_trans h.1 k.next, h.2.1, h.2.2.imp id fun ⟨i, o, cs, h1, h2, h3, h4, h5⟩ => ⟨i, o, cs, h1, h2, Nat.lt_of_lt_of_le h3 k.next, by rw [k.keep i h3 (fun p m e => ha i p m o _ e h1)]; exact h4, h5⟩⟩

theorem Own.app {H : Heap} {lim b : Nat} {s : C} {sz : Nat} {rows rows' : List (List C)} (h : Own H b s sz rows) (hb : lim ≤ b) (hr : ∀ r ∈ rows', r.length = sz) {n : Nat} (hn : n = rows'.length) (hroom : rows.length + rows'.length ≤ 2 ^ 36) :
    ∃ c' H', H.app lim sz s rows'.flatten n = some (c', H') ∧ Own H' b c' sz (rows ++ rows') ∧ Kept s H H' ∧ (c' = .nilSlice ∨ ∃ o n, c' = .slice H.next o n) := by
  subst hn
  have hall : ∀ r ∈ rows ++ rows', r.length = sz := fun r hrm => (List.mem_append.1 hrm).elim (h.2.1 r) (hr r)
  rcases h.2.2 with ⟨rfl, rfl⟩ | ⟨i, o, cs, rfl, h2, h3, h4, h5, h6⟩
  · by_cases h0 : rows'.length = 0
    · have := List.eq_nil_of_length_eq_zero h0; subst this
      exact ⟨.nilSlice, H, by simp [Heap.app], ⟨h.1, by simp, .inl ⟨rfl, rfl⟩⟩, ⟨Nat.le_refl _, fun _ _ _ => rfl⟩, .inl rfl⟩
    · refine ⟨_, _, by simp only [Heap.app]; rw [if_neg h0, if_pos (by simp [roomy] at hroom ⊢; omega)], ?_, ⟨Nat.le_succ _, fun i hi _ => alloc_old hi⟩, .inr ⟨_, _, rfl⟩⟩
      exact Own.lit H h.1 hall (by simp) (by simp)
  · refine ⟨_, _, by simp only [Heap.app, h4]; rw [if_pos ⟨by omega, trivial, h5, by simpa [roomy] using hroom⟩], ?_, ⟨Nat.le_succ _, fun j hj hne => ?_⟩, .inr ⟨_, _, rfl⟩⟩
    · rw [h6]
      have := Own.lit (H.kill i) (b := b) (sz := sz) h.1 hall (cs := rows.flatten ++ rows'.flatten) (by simp) (n := rows.length + rows'.length) (by simp)
      exact this
    · have hji : j ≠ i := fun e => hne o rows.length (by rw [e])
      rw [alloc_old (show j < (H.kill i).next from hj), hkill_other hji]

theorem Own.append1 {H : Heap} {lim b : Nat} {s : C} {sz : Nat} {rows : List (List C)} (h : Own H b s sz rows) (hb : lim ≤ b) {r : List C} (hr : r.length = sz) (hroom : rows.length + 1 ≤ 2 ^ 36) :
    Heap.cellsOf (H.alloc (.cells sz r)) sz (.slice H.next 0 1) = some r ∧
    ∃ c' H', Heap.app lim (H.alloc (.cells sz r)) sz s r 1 = some (c', H') ∧ Own H' b c' sz (rows ++ [r]) ∧ Kept s H H' ∧ (c' = .nilSlice ∨ ∃ i o n, c' = .slice i o n ∧ H.next ≤ i) := by
  have hl : Own (H.alloc (.cells sz r)) b (.slice H.next 0 1) sz [r] := Own.lit H h.1 (by simp [hr]) (by simp) rfl
  refine ⟨by have := hl.sl.cellsOf; simpa using this, ?_⟩
  obtain ⟨c', H', h1, h2, h3, h4⟩ := (h.grow (.alloc H _)).app (lim := lim) (rows' := [r]) hb (by simp [hr]) (n := 1) rfl (by simpa using hroom)
  refine ⟨c', H', by simpa using h1, h2, ⟨Nat.le_trans (Nat.le_succ _) h3.next, fun i hi hne => ?_⟩, ?_⟩
  rotate_left
  · rcases h4 with h4 | ⟨o, n, e⟩
    · exact .inl h4
    · exact .inr ⟨_, o, n, e, by simp⟩
  rw [h3.keep i (Nat.lt_succ_of_lt hi) hne, alloc_old hi]
theorem OInts.append1 {H : Heap} {lim b : Nat} {s : C} {l : List Int} (h : OInts H b s l) (hb : lim ≤ b) (x : Int) (hroom : l.length + 1 ≤ 2 ^ 36) :
    Heap.cellsOf (H.alloc (.cells 1 [.int .i64 x])) 1 (.slice H.next 0 1) = some [.int .i64 x] ∧
    ∃ c' H', Heap.app lim (H.alloc (.cells 1 [.int .i64 x])) 1 s [.int .i64 x] 1 = some (c', H') ∧ OInts H' b c' (l ++ [x]) ∧ Kept s H H' ∧ (c' = .nilSlice ∨ ∃ i o n, c' = .slice i o n ∧ H.next ≤ i) := by
  obtain ⟨h1, c', H', h2, h3, h4⟩ := Own.append1 h hb (r := rowI x) rfl (by simpa using hroom)
  exact ⟨h1, c', H', h2, by unfold OInts; rw [List.map_append]; exact h3, h4⟩
end Go.Proofs.Ytnnjklkfcleleaa.Vm
