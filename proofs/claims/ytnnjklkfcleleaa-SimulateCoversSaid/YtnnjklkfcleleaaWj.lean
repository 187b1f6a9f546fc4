/-
  CHAPTER 20: how far states are: the program's own search, as lists.
-/
import Derived.Test.YtnnjklkfcleleaaWi
namespace Go.Proofs.Ytnnjklkfcleleaa.R
open Go Go.Proofs.Ytnnjklkfcleleaa.Vm
set_option linter.unusedVariables false
set_option linter.unusedSimpArgs false
variable {M : Mach}

def frOf (es : List E) (i : Int) : Int := match es[i.toNat]? with
  | some e => e.f
  | none => 0
/-- the steps from a state that was taken: distances, first steps, what is open -/
def relax (es : List E) (s : Int) : List Int → List Int × List Int × List Int → List Int × List Int × List Int
  | [], r => r
  | i :: l, (d, b, q) => if d.getD (toOf es i).toNat 0 = -1 then relax es s l (d.set (toOf es i).toNat (d.getD s.toNat 0 + 1), b.set (toOf es i).toNat i, q ++ [toOf es i]) else relax es s l (d, b, q)
def bfs (es : List E) : Nat → List Int × List Int × List Int → Option (List Int × List Int)
  | 0, _ => none
  | _ + 1, (d, b, []) => some (d, b)
  | F + 1, (d, b, s :: q) => bfs es F (relax es s (outs es s) (d, b, q))

/-! ### Repeat, Clone -/
theorem mul_one (k : Fin 401) : (IntKind.wrap .u64 ((IntKind.wrap .u64 ((IntKind.wrap .u64 ((shI .shr .u64 1 32) * (shI .shr .u64 (k.val : Int) 32))) + (shI .shr .u64 (IntKind.wrap .u64 ((IntKind.wrap .u64 ((shI .shr .u64 1 32) * (bitI .and .u64 (k.val : Int) 4294967295))) + (shI .shr .u64 (IntKind.wrap .u64 ((bitI .and .u64 1 4294967295) * (bitI .and .u64 (k.val : Int) 4294967295))) 32))) 32))) + (shI .shr .u64 (IntKind.wrap .u64 ((bitI .and .u64 (IntKind.wrap .u64 ((IntKind.wrap .u64 ((shI .shr .u64 1 32) * (bitI .and .u64 (k.val : Int) 4294967295))) + (shI .shr .u64 (IntKind.wrap .u64 ((bitI .and .u64 1 4294967295) * (bitI .and .u64 (k.val : Int) 4294967295))) 32))) 4294967295) + (IntKind.wrap .u64 ((bitI .and .u64 1 4294967295) * (shI .shr .u64 (k.val : Int) 32))))) 32))) = 0 ∧ IntKind.wrap .u64 (1 * (k.val : Int)) = (k.val : Int) ∧ IntKind.wrap .u64 (k.val : Int) = (k.val : Int) ∧ IntKind.wrap .i64 (k.val : Int) = (k.val : Int) := by
  revert k; decide +kernel
theorem f75_one {k : Nat} (hk : k ≤ 400) (H : Heap) : f75 M 1 (k : Int) H = some (.tuple [.c (.int .u64 0), .c (.int .u64 (k : Int))], H) := by
  obtain ⟨h1, h2, h3, h4⟩ := mul_one ⟨k, by omega⟩
  simp only at h1 h2
  rw [f75_eq, f78_eq]
  simp only [h1, h2, Option.bind_some, ext_tuple, List.getElem?_cons_zero, List.getElem?_cons_succ, asC_c, asI_int]

theorem f66_3_is {i N : Nat} {v : C} (hi : M.lim ≤ i) (hN : N ≤ 1000000) : ∀ (F n : Nat) (cs : List C) (H : Heap), N ≤ n + F → 1 ≤ n → n ≤ N → H.get i = some (.cells 1 cs) → cs.length = N → cs.take n = List.replicate n v →
    ∃ H', f66_3 M (.slice i 0 N) (n : Int) H = some (.c (.slice i 0 N), H') ∧ H'.next = H.next ∧ (∀ j, j ≠ i → H'.get j = H.get j) ∧ H'.get i = some (.cells 1 (List.replicate N v)) := by
  intro F
  induction F with
  | zero =>
    intro n cs H hF h1 h2 hg hl ht
    obtain rfl : n = N := by omega
    refine ⟨H, ?_, rfl, fun _ _ => rfl, ?_⟩
    · rw [f66_3_eq]; simp
    · rw [hg, ← ht, List.take_of_length_le (by omega)]
  | succ F ih =>
    intro n cs H hF h1 h2 hg hl ht
    by_cases hn : n = N
    · subst hn
      refine ⟨H, ?_, rfl, fun _ _ => rfl, ?_⟩
      · rw [f66_3_eq]; simp
      · rw [hg, ← ht, List.take_of_length_le (by omega)]
    · have hbad : H.szBad i 1 = false := by simp [Heap.szBad, hg]
      have hnn : ¬ (M.lim ≤ i ∧ H.szBad i 1 = true) := by rw [hbad]; simp
      have s1 : Heap.sub M.lim H 1 (.slice i 0 N) (n : Int) none = some (.slice i n (N - n)) := by
        simp only [Heap.sub, hnn, if_false, Option.getD_none]
        rw [if_pos (by omega)]
        simp
      have s2 : Heap.sub M.lim H 1 (.slice i 0 N) 0 (some (n : Int)) = some (.slice i 0 n) := by
        simp only [Heap.sub, hnn, if_false, Option.getD_some]
        rw [if_pos (by omega)]
        simp
      have s3 : Heap.cellsOf H 1 (.slice i 0 n) = some (List.replicate n v) := by
        simp only [Heap.cellsOf, Heap.ldN, hg]
        rw [if_pos (by omega)]
        simp [ht]
      let m := Nat.min n (N - n)
      have hm : m = Nat.min n (N - n) := rfl
      have hm1 : m ≤ n := Nat.min_le_left _ _
      have hm2 : m ≤ N - n := Nat.min_le_right _ _
      have hm3 : 1 ≤ m := by rw [hm]; exact Nat.le_min.2 ⟨h1, by omega⟩
      have s4 : Heap.copy M.lim H 1 (.slice i n (N - n)) (List.replicate n v) n = some (m, H.put i (.cells 1 (splice cs n (List.replicate m v)))) := by
        have htk : (List.replicate n v).take (Nat.min n (N - n) * 1) = List.replicate m v := by rw [Nat.mul_one, List.take_replicate, ← hm, Nat.min_eq_left hm1]
        simp only [Heap.copy, htk, Heap.st, hg]
        rw [if_pos ⟨hi, by simp; omega⟩]
        rfl
      have hsp : splice cs n (List.replicate m v) = List.replicate n v ++ List.replicate m v ++ cs.drop (n + m) := by
        have e : cs = List.replicate n v ++ (cs.drop n).take m ++ cs.drop (n + m) := by
          rw [← ht, ← List.drop_drop, List.append_assoc, List.take_append_drop, List.take_append_drop]
        have := splice_mid (List.replicate m v) ((cs.drop n).take m) (List.replicate n v) (cs.drop (n + m)) (by simp; omega)
        rw [List.length_replicate, ← e] at this
        exact this
      obtain ⟨H', b1, b2, b3, b4⟩ := ih (n + m) (splice cs n (List.replicate m v)) (H.put i (.cells 1 (splice cs n (List.replicate m v)))) (by omega) (by omega) (by omega) (put_same _ _ _) (by rw [splice_length]; exact hl) (by
        rw [hsp, List.replicate_append_replicate, List.take_append_of_le_length (by simp), List.take_of_length_le (by simp)])
      have hw : IntKind.wrap .i64 ((n : Int) + ((m : Nat) : Int)) = ((n + m : Nat) : Int) := by rw [wrap_in (by omega) (by omega)]; simp
      refine ⟨H', ?_, b2, fun j hj => by rw [b3 j hj, hput_other hj], b4⟩
      rw [f66_3_eq]
      simp only [len_slice, Option.bind_some, show ((n : Int) < (N : Int)) by omega, decide_true, if_true, s1, s2, s3, s4, hw]
      exact b1
theorem f66_is {H : Heap} {c : C} {v : Int} {n : Int} (h : Ints H c [v]) (h0 : 0 ≤ n) (h1 : n ≤ 400) (hM : M.lim ≤ H.next) : ∃ c' H', f66 M c n H = some (.c c', H') ∧ Grow H H' ∧ OInts H' H.next c' (List.replicate n.toNat v) := by
  obtain ⟨k, rfl⟩ := Int.eq_ofNat_of_zero_le h0
  have hk : k ≤ 400 := by omega
  obtain ⟨m1, m2, m3, m4⟩ := mul_one ⟨k, by omega⟩
  simp only at m3 m4
  have hlen : C.len c = some 1 := h.len
  have w1 : IntKind.wrap .u64 ((1 : Nat) : Int) = 1 := rfl
  have f1 : f66 M c (k : Int) H = f66_2 M c (k : Int) H := by
    rw [f66_eq, f66_1_eq]
    simp only [show ¬ ((k : Int) < 0) by omega, decide_false, Bool.false_eq_true, if_false, hlen, Option.bind_some, w1, m3, f75_one hk, ext_tuple, List.getElem?_cons_zero, List.getElem?_cons_succ, asC_c, asI_int]
    simp only [show ¬ ((0 : Int) < 0) by omega, show ¬ ((9223372036854775807 : Int) < (k : Int)) by omega, decide_false, if_true, Option.bind_some, Bool.false_eq_true, if_false]
  rw [f1, f66_2_eq]
  have hc2 : (H.alloc (.cells 1 (List.replicate k [C.int .i64 0]).flatten)).cellsOf 1 c = some [.int .i64 v] := by
    have := (h.grow (.alloc H (.cells 1 (List.replicate k [C.int .i64 0]).flatten)))
    have h2 := Sl.cellsOf this
    simpa [rowI] using h2
  have hfl : (List.replicate k [C.int .i64 0]).flatten = List.replicate k (C.int .i64 0) := by
    induction k with
    | zero => rfl
    | succ k ih => simp [List.replicate_succ]
  simp only [m4, show (0 : Int) ≤ (k : Int) ∧ (k : Int) ≤ 2 ^ 36 by omega, and_self, if_true, Int.toNat_natCast, hc2, hlen, Option.bind_some]
  have g := Grow.alloc H (.cells 1 (List.replicate k [C.int .i64 0]).flatten)
  have hget : (H.alloc (.cells 1 (List.replicate k [C.int .i64 0]).flatten)).get H.next = some (.cells 1 (List.replicate k (C.int .i64 0))) := by rw [alloc_new, hfl]
  have hcp : Heap.copy M.lim (H.alloc (.cells 1 (List.replicate k [C.int .i64 0]).flatten)) 1 (.slice H.next 0 k) [.int .i64 v] 1 = some (Nat.min 1 k, (H.alloc (.cells 1 (List.replicate k [C.int .i64 0]).flatten)).put H.next (.cells 1 (splice (List.replicate k (C.int .i64 0)) 0 ([C.int .i64 v].take (Nat.min 1 k))))) := by
    simp only [Heap.copy, Heap.st, hget, Nat.mul_one]
    have hle : ([C.int .i64 v].take (Nat.min 1 k)).length ≤ k := by rw [List.length_take]; exact Nat.le_trans (Nat.min_le_left _ _) (Nat.min_le_right _ _)
    rw [if_pos ⟨hM, by rw [List.length_replicate, Nat.zero_add]; exact hle⟩]
    rfl
  simp only [hcp, Option.bind_some]
  by_cases hk0 : k = 0
  · subst hk0
    refine ⟨_, _, by rw [f66_3_eq]; rfl, ⟨by simp, fun j hj => by rw [hput_other (by omega), alloc_old hj]⟩, ?_⟩
    exact ⟨by simp, fun r hr => (by simp at hr), .inr ⟨H.next, 0, [], by simp, Nat.le_refl _, by simp, by simp [splice], by simp, by simp⟩⟩
  · have hmin : Nat.min 1 k = 1 := Nat.min_eq_left (by omega)
    obtain ⟨k', rfl⟩ : ∃ k', k = k' + 1 := ⟨k - 1, by omega⟩
    obtain ⟨H', b1, b2, b3, b4⟩ := f66_3_is (M := M) (v := C.int .i64 v) hM (N := k' + 1) (by omega) (k' + 1) 1 (splice (List.replicate (k' + 1) (C.int .i64 0)) 0 ([C.int .i64 v].take (Nat.min 1 (k' + 1)))) ((H.alloc (.cells 1 (List.replicate (k' + 1) [C.int .i64 0]).flatten)).put H.next (.cells 1 (splice (List.replicate (k' + 1) (C.int .i64 0)) 0 ([C.int .i64 v].take (Nat.min 1 (k' + 1)))))) (by omega) (by omega) (by omega) (put_same _ _ _) (by rw [splice_length]; simp) (by rw [hmin]; simp [splice, List.replicate_succ])
    rw [hmin] at b1 ⊢
    refine ⟨_, H', b1, ⟨by rw [b2]; simp, fun j hj => by rw [b3 j (by omega), hput_other (by omega), alloc_old hj]⟩, ?_⟩
    refine ⟨by rw [b2]; simp, fun r hr => ?_, .inr ⟨H.next, 0, _, by simp, Nat.le_refl _, by rw [b2]; simp, b4, by simp, ?_⟩⟩
    · obtain ⟨x, hx, rfl⟩ := List.mem_map.1 hr; rfl
    · simp only [Int.toNat_natCast, List.map_replicate, List.length_replicate, Nat.mul_one, List.drop_zero, rowI]
      rw [List.take_of_length_le (by simp)]
      generalize k' + 1 = z
      induction z with
      | zero => rfl
      | succ z ih => simp [List.replicate_succ, ← ih]
theorem f67_is {H : Heap} {c : C} {l : List Int} (h : Ints H c l) (hM : M.lim ≤ H.next) (hr : l.length ≤ 2 ^ 36) : ∃ c' H', f67 M c H = some (.c c', H') ∧ Grow H H' ∧ OInts H' H.next c' l := by
  rw [f67_eq]
  have hnil : ∃ b, isNil .slice c = some b ∧ (b = true → l = []) := by
    rcases h.2 with ⟨rfl, h2⟩ | ⟨i, o, z, cs, rfl, _⟩
    · exact ⟨true, rfl, fun _ => by simpa using h2⟩
    · exact ⟨false, rfl, fun h => by cases h⟩
  obtain ⟨b, hb, hb2⟩ := hnil
  simp only [hb, Option.bind_some]
  cases b with
  | true =>
    rw [hb2 rfl]
    exact ⟨.nilSlice, H, rfl, .refl _, Own.nil (Nat.le_refl _) 1⟩
  | false =>
    obtain ⟨a1, a2, c', H', a3, a4, a5⟩ := own_copy (lim := M.lim) h hM (by simpa using hr)
    refine ⟨c', H', ?_, a4, a5⟩
    simp only [bne_self_eq_false, Bool.false_eq_true, if_false, a1, a2, a3, Option.bind_some]
end Go.Proofs.Ytnnjklkfcleleaa.R
