/-
  WRITING AN ELEMENT; what is made new.
-/
import Derived.Test.YtnnjklkfcleleaaVq
namespace Go.Proofs.Ytnnjklkfcleleaa.Vm
open Go
set_option linter.unusedVariables false
set_option linter.unusedSimpArgs false

theorem splice_mid : ∀ (x y P S : List C), x.length = y.length → splice (P ++ y ++ S) P.length x = P ++ x ++ S
  | [], y, P, S, h => by
    have := List.eq_nil_of_length_eq_zero h.symm; subst this; rfl
  | c :: x, [], P, S, h => by simp at h
  | c :: x, d :: y, P, S, h => by
    simp only [splice]
    have e : (P ++ d :: y ++ S).set P.length c = (P ++ [c]) ++ y ++ S := by simp
    rw [e]
    have := splice_mid x y (P ++ [c]) S (by simpa using h)
    simp only [List.length_append, List.length_cons, List.length_nil] at this
    rw [this]; simp
theorem flat_set {rows : List (List C)} {j : Nat} (hj : j < rows.length) (r : List C) :
    rows.flatten = (rows.take j).flatten ++ rows[j] ++ (rows.drop (j + 1)).flatten ∧ (rows.set j r).flatten = (rows.take j).flatten ++ r ++ (rows.drop (j + 1)).flatten := by
  constructor
  · have h : rows = rows.take j ++ rows[j] :: rows.drop (j + 1) := by rw [List.getElem_cons_drop, List.take_append_drop]
    exact (congrArg List.flatten h).trans (by rw [List.flatten_append, List.flatten_cons, List.append_assoc])
  · rw [List.set_eq_take_append_cons_drop, if_pos hj]; simp

theorem Own.set {H : Heap} {lim b : Nat} {s : C} {sz : Nat} {rows : List (List C)} (h : Own H b s sz rows) (hb : lim ≤ b) {j : Nat} (hj : j < rows.length) {r : List C} (hr : r.length = sz) :
    ∃ q H', C.elem sz s (j : Int) = some q ∧ H.st lim q.1 q.2 r = some H' ∧ Own H' b s sz (rows.set j r) ∧ Kept s H H' ∧ H'.next = H.next := by
  rcases h.2.2 with ⟨rfl, rfl⟩ | ⟨i, o, cs, rfl, h2, h3, h4, h5, h6⟩
  · simp at hj
  · have hall := h.2.1
    have hmul : j * sz + sz ≤ rows.length * sz := by
      have : (j + 1) * sz ≤ rows.length * sz := Nat.mul_le_mul_right _ hj
      rw [Nat.add_mul] at this; omega
    have hfit : o + j * sz + r.length ≤ cs.length := by omega
    refine ⟨(i, o + j * sz), H.put i (.cells sz (splice cs (o + j * sz) r)), by simp only [C.elem]; rw [if_pos (by omega)]; simp, by simp only [Heap.st, h4]; rw [if_pos ⟨by omega, hfit⟩], ?_, ⟨Nat.le_refl _, fun k hk hne => hput_other fun e => hne o rows.length (by rw [e])⟩, rfl⟩
    have hset : (rows.set j r).length = rows.length := by simp
    have hjl : (rows[j]).length = sz := hall _ (List.getElem_mem hj)
    obtain ⟨f1, f2⟩ := flat_set hj r
    have htl : (rows.take j).flatten.length = j * sz := by
      rw [flat_len' fun x hx => hall x (List.mem_of_mem_take hx)]
      rw [List.length_take, Nat.min_eq_left (by omega)]
    -- the cells in three parts
    have hcs : cs = (cs.take o ++ (rows.take j).flatten) ++ rows[j] ++ ((rows.drop (j + 1)).flatten ++ cs.drop (o + rows.length * sz)) := by
      have e1 : cs = cs.take o ++ (cs.drop o) := (List.take_append_drop o cs).symm
      have e2 : cs.drop o = (cs.drop o).take (rows.length * sz) ++ (cs.drop o).drop (rows.length * sz) := (List.take_append_drop _ _).symm
      rw [h6, f1, List.drop_drop] at e2
      conv => lhs; rw [e1, e2]
      simp
    have hpl : (cs.take o ++ (rows.take j).flatten).length = o + j * sz := by rw [List.length_append, htl, List.length_take]; omega
    have hsp : splice cs (o + j * sz) r = (cs.take o ++ (rows.take j).flatten) ++ r ++ ((rows.drop (j + 1)).flatten ++ cs.drop (o + rows.length * sz)) := by
      conv => lhs; rw [hcs, ← hpl]
      exact splice_mid r rows[j] _ _ (by rw [hr, hjl])
    refine ⟨h.1, fun x hx => (List.mem_or_eq_of_mem_set hx).elim (hall x) (fun e => e ▸ hr), .inr ⟨i, o, _, by rw [hset], h2, h3, put_same _ _ _, by rw [splice_length, hset]; exact h5, ?_⟩⟩
    rw [hset, hsp, f2]
    have e3 : (cs.take o ++ (rows.take j).flatten) ++ r ++ ((rows.drop (j + 1)).flatten ++ cs.drop (o + rows.length * sz)) = cs.take o ++ (((rows.take j).flatten ++ r ++ (rows.drop (j + 1)).flatten) ++ cs.drop (o + rows.length * sz)) := by simp
    rw [e3, List.drop_append_of_le_length (by rw [List.length_take]; omega), List.drop_of_length_le (by rw [List.length_take]; omega), List.nil_append]
    have e4 : ((rows.take j).flatten ++ r ++ (rows.drop (j + 1)).flatten).length = rows.length * sz := by
      rw [← f2, flat_len' (rows := rows.set j r) fun x hx => (List.mem_or_eq_of_mem_set hx).elim (hall x) (fun e => e ▸ hr), hset]
    rw [List.take_append_of_le_length (by rw [e4]; exact Nat.le_refl _), List.take_of_length_le (by rw [e4]; exact Nat.le_refl _)]

/-- a new slice of the same row, so many times -/
theorem Own.made (H : Heap) {b sz : Nat} (hb : b ≤ H.next) {z : List C} (hz : z.length = sz) (n : Nat) : Own (H.alloc (.cells sz (List.replicate n z).flatten)) b (.slice H.next 0 n) sz (List.replicate n z) :=
  Own.lit H hb (fun r hr => by rw [List.eq_of_mem_replicate hr]; exact hz) rfl (by simp)
theorem OInts.set {H : Heap} {lim b : Nat} {s : C} {l : List Int} (h : OInts H b s l) (hb : lim ≤ b) {j : Nat} (hj : j < l.length) (x : Int) :
    ∃ q H', C.elem 1 s (j : Int) = some q ∧ H.st lim q.1 q.2 [.int .i64 x] = some H' ∧ OInts H' b s (l.set j x) ∧ Kept s H H' ∧ H'.next = H.next := by
  obtain ⟨q, H', h1, h2, h3, h4⟩ := Own.set h hb (j := j) (by simpa using hj) (r := rowI x) rfl
  exact ⟨q, H', h1, h2, by unfold OInts; rw [List.map_set]; exact h3, h4⟩
theorem OInts.setI {H : Heap} {lim b : Nat} {s : C} {l : List Int} (h : OInts H b s l) (hb : lim ≤ b) {i : Int} (h0 : 0 ≤ i) (hj : i.toNat < l.length) (x : Int) :
    ∃ q H', C.elem 1 s i = some q ∧ H.st lim q.1 q.2 [.int .i64 x] = some H' ∧ OInts H' b s (l.set i.toNat x) ∧ Kept s H H' ∧ H'.next = H.next := by
  have := h.set hb hj x
  rwa [Int.toNat_of_nonneg h0] at this
theorem OInts.grow {H H' : Heap} {b : Nat} {c : C} {l : List Int} (h : OInts H b c l) (g : Grow H H') : OInts H' b c l := Own.grow h g
theorem OInts.kept {H H' : Heap} {s c : C} {b : Nat} {l : List Int} (h : OInts H b c l) (k : Kept s H H') (ha : Apart s c) : OInts H' b c l := Own.kept h k ha
theorem Ints.kept {H H' : Heap} {s c : C} {l : List Int} (h : Ints H c l) (k : Kept s H H') (ha : Apart s c) : Ints H' c l := Sl.kept h k ha
/-- where the object lies -/
def idOf : C → Option Nat
  | .slice i _ _ => some i
  | _ => none
theorem apart_of {s c : C} (h : ∀ i, idOf s = some i → idOf c ≠ some i) : Apart s c := fun i o n p m e1 e2 => h i (by rw [e1]; rfl) (by rw [e2]; rfl)
theorem Own.id {H : Heap} {b : Nat} {c : C} {sz : Nat} {rows : List (List C)} (h : Own H b c sz rows) {i : Nat} (hi : idOf c = some i) : b ≤ i ∧ i < H.next := by
  rcases h.2.2 with ⟨rfl, _⟩ | ⟨j, o, cs, rfl, h2, h3, _⟩
  · cases hi
  · cases hi; exact ⟨h2, h3⟩
theorem Sl.id {H : Heap} {c : C} {sz : Nat} {rows : List (List C)} (h : Sl H c sz rows) {i : Nat} (hi : idOf c = some i) : i < H.next := by
  rcases h.2 with ⟨rfl, _⟩ | ⟨j, o, z, cs, rfl, h2, _⟩
  · cases hi
  · cases hi; exact h2
/-- what was there before an own one is apart from it -/
theorem Sl.apart_own {H0 H H' : Heap} {s c : C} {sz sz' : Nat} {rows rows' : List (List C)} (h : Sl H0 c sz rows) (k : Own H H0.next s sz' rows') : Apart s c := apart_of fun i h1 h2 => by
  have := (k.id h1).1; have := h.id h2; omega
end Go.Proofs.Ytnnjklkfcleleaa.Vm
