/-
  ALLOCATIONS THAT COME EARLY: a block that no object has yet.
-/
import Derived.Test.YtnnjklkfcleleaaVm
namespace Go.Proofs.Ytnnjklkfcleleaa.Vm
open Go
set_option linter.unusedVariables false
set_option linter.unusedSimpArgs false
variable {lim : Nat} {P : Program}

/-- what an operation allocates: size of an element, cells, and whether a slice (of what length) or a pointer is made -/
def allocOf (e : Env) : ROp → Option (Nat × List C × Option Nat)
  | .box sz x => (ev e x).bind fun v => v.cells.bind fun xs => if xs.length = sz then some (sz, xs, none) else none
  | .new z => some (z.length, z, none)
  | .lit sz len z ps => (fillC e z ps).bind fun cs => some (sz, cs, some len)
  | .mkS sz z n => (evI .i64 e n).bind fun n => if 0 ≤ n ∧ n ≤ 2 ^ 36 then some (sz, (List.replicate n.toNat z).flatten, some n.toNat) else none
  | _ => none
def ROp.allocs : ROp → Bool
  | .box _ _ | .new _ | .lit _ _ _ _ | .mkS _ _ _ => true
  | _ => false
def madeC (i : Nat) : Option Nat → C
  | none => .ptr i 0
  | some n => .slice i 0 n
def madeV (b : Nat) : Option Nat → Value
  | none => .pointer (some ⟨b, 0, none⟩)
  | some n => .slice (some ⟨b, 0, none⟩) n n
theorem evalOp_alloc {lim : Nat} {call : CallT} {e : Env} {H : Heap} {o : ROp} {R : Type} {K : T → Heap → Option R} {r : R} (ha : o.allocs = true) (h : evalOp lim call e H o K = some r) :
    ∃ sz cs m, allocOf e o = some (sz, cs, m) ∧ K (.val (.c (madeC H.next m))) (H.alloc (.cells sz cs)) = some r := by
  cases o <;> simp [ROp.allocs] at ha <;> simp only [evalOp] at h
  · obtain ⟨v, hv, h⟩ := Option.bind_eq_some_iff.1 h
    obtain ⟨xs, hxs, h⟩ := Option.bind_eq_some_iff.1 h
    split at h
    · rename_i hl; exact ⟨_, xs, none, by simp only [allocOf, hv, hxs, Option.bind_some, if_pos hl], h⟩
    · cases h
  · exact ⟨_, _, none, rfl, h⟩
  · obtain ⟨cs, hcs, h⟩ := Option.bind_eq_some_iff.1 h
    exact ⟨_, cs, some _, by simp only [allocOf, hcs, Option.bind_some], h⟩
  · obtain ⟨n, hn, h⟩ := Option.bind_eq_some_iff.1 h
    split at h
    · rename_i hb; exact ⟨_, _, some _, by simp only [allocOf, hn, Option.bind_some, if_pos hb], h⟩
    · cases h
theorem allocOf_agree {e e2 : Env} {o : ROp} (h : Agree o.slots e e2) : allocOf e2 o = allocOf e o := by
  cases o <;> simp only [allocOf, ROp.slots] at h ⊢
  · rw [ev_agree h]
  · rw [fillC_agree h]
  · rw [evI_agree h]

theorem alloc_sound {base : Nat} {φ : Phi} {ψ : Nat → Nat} {e : Env} {a : Act} {w : World} {rop : ROp} {o : Oper} (hc : chkOp P rop o = true) (he : ERel lim base φ ψ e a.tmps w) {H : Heap} (hH : HRel lim φ H w) {sz : Nat} {cs : List C} {m : Option Nat}
    (h : allocOf e rop = some (sz, cs, m)) :
    ∃ A el, (execOp a.eval o).run P w = .ok (.value (madeV w.heap.size m)) (w.alloc (.cells A el)) ∧ CsRel lim φ cs A.toList ∧ ∀ n, m = some n → n * sz ≤ cs.length := by
  cases rop <;> simp only [allocOf] at h <;> try (cases h; done)
  case box sz' x =>
    obtain ⟨v, hv, h⟩ := Option.bind_eq_some_iff.1 h
    obtain ⟨xs, hxs, h⟩ := Option.bind_eq_some_iff.1 h
    split at h
    · cases h
      simp only [chkOp] at hc
      split at hc
      · rename_i t y ho
        exact ⟨(a.eval y).cells, t, by simp [execOp, ho, Instr.box, newVar, newRow, madeV], (ev_rel he hc hv).cells hxs, fun n hn => by cases hn⟩
      · cases hc
    · cases h
  case new z =>
    cases h
    simp only [chkOp] at hc
    split at hc
    · rename_i t ho
      obtain ⟨i, zv, hi, hz, hcs, hsz⟩ := zeroIs_eq hc
      exact ⟨zv.cells, t, by simp [execOp, ho, Instr.alloc, newVar, newRow, run_zero hi hz, madeV], chkCs_rel hcs, fun n hn => by cases hn⟩
    · cases hc
  case lit sz' len z ps =>
    obtain ⟨cs', hcs, h⟩ := Option.bind_eq_some_iff.1 h
    cases h
    simp only [chkOp] at hc
    split at hc
    · rename_i t n qs ho
      simp only [Bool.and_eq_true, beq_iff_eq] at hc
      obtain ⟨rfl, hc⟩ := hc
      split at hc
      · rename_i el hel
        have ht := sliceT_eq hel
        split at hc
        · rename_i j hj
          simp only [Bool.and_eq_true, beq_iff_eq, decide_eq_true_eq] at hc
          obtain ⟨⟨⟨hjs, hle⟩, hz⟩, hp⟩ := hc
          split at hz
          · rename_i zv hzv
            obtain ⟨arr, ha, hr⟩ := fill_rel he _ ps qs.toList z _ hp (chkCs_rel hz) hcs
            refine ⟨arr, el, ?_, hr, fun n' hn' => ?_⟩
            · have hq : (qs.map fun (i, x) => (i, a.eval x)).toList = qs.toList.map fun (i, x) => (i, a.eval x) := by simp
              have hnot : ¬ (16777216 < n * sz) := by omega
              subst hjs
              by_cases hz0 : n * j.size = 0
              · simp only [hz0, if_true, Array.range_zero', Array.map_empty] at ha
                simp [execOp, ho, Instr.buildSlice, run_underlying ht, run_size hj, hnot, hz0, hq, Array.range_zero', ha, newRow, madeV]
              · simp only [hz0, if_false] at ha
                simp [execOp, ho, Instr.buildSlice, run_underlying ht, run_size hj, run_zero hj hzv, hnot, hz0, hq, ha, newRow, madeV]
            · cases hn'
              have hl1 := hr.length
              have hl2 := fillC_length ps z hcs
              have hl3 := (chkCs_rel (lim := lim) (φ := φ) hz).length
              simp at hl1 hl3 ⊢; omega
          · cases hz
        · cases hc
      · cases hc
    · cases hc
  case mkS sz' z n =>
    obtain ⟨m', hm, h⟩ := Option.bind_eq_some_iff.1 h
    split at h
    · rename_i hb
      cases h
      simp only [chkOp] at hc
      split at hc
      · rename_i t l c ho
        simp only [Bool.and_eq_true] at hc
        obtain ⟨⟨h1, h2⟩, hc⟩ := hc
        split at hc
        · rename_i el hel
          simp only [Bool.and_eq_true] at hc
          obtain ⟨⟨g1, g2⟩, g3⟩ := hc
          obtain ⟨i, hi, hsz⟩ := szIs_eq g1
          obtain ⟨i', zv, hi', hzv, hzc, hzs⟩ := zeroIs_eq g3
          rw [hi] at hi'; cases hi'
          have hbb : 0 < i.bytes ∧ i.bytes ≤ 2048 := by
            unfold bytesOk at g2; rw [hi] at g2; simpa using g2
          obtain ⟨n0, rfl⟩ := Int.eq_ofNat_of_zero_le hb.1
          have hn' : n0 ≤ 2 ^ 36 := by omega
          have hbn : i.bytes * n0 ≤ 2 ^ 47 := Nat.le_trans (Nat.mul_le_mul hbb.2 hn') (by decide)
          have hzr : CsRel lim φ z zv.cells.toList := chkCs_rel hzc
          have hrel : CsRel lim φ (List.replicate n0 z).flatten (madeCells zv.cells (n0 * i.size)).toList := by
            have := hzr.flatten n0
            rw [← range_flatten zv.cells.toList default n0] at this
            have e : (madeCells zv.cells (n0 * i.size)).toList = (List.range (n0 * zv.cells.toList.length)).map fun j => (zv.cells.toList[j % zv.cells.toList.length]?).getD default := by
              simp only [madeCells, Array.toList_map, Array.toList_range, Array.length_toList, hzs]
              refine List.map_congr_left fun j _ => ?_
              rw [getElem!_def, Array.getElem?_toList]
              cases zv.cells[j % i.size]? <;> rfl
            rw [e]; exact this
          have hlt : (i.bytes : Int) * (n0 : Int) ≤ 281474976710656 := by
            have : ((i.bytes * n0 : Nat) : Int) ≤ 2 ^ 47 := by exact_mod_cast hbn
            push_cast at this
            omega
          have hs : (madeCells zv.cells (n0 * i.size)).size = n0 * i.size := size_madeCells _ _
          refine ⟨madeCells zv.cells (n0 * i.size), el, ?_, by simpa using hrel, fun n' hn' => ?_⟩
          · have := run_make (P := P) w t el i zv (sliceT_eq hel) hi hzv .i64 .i64 n0 n0 hb.1 (Int.le_refl _) hlt (by omega)
            simp [execOp, ho, evI_rel he h1 hm, evI_rel he h2 hm, this, madeV]
          · cases hn'
            have hl := hrel.length
            simp only [Array.length_toList, hs] at hl
            simp only [Int.toNat_natCast]
            rw [hl, hsz]; exact Nat.le_refl _
        · cases hc
      · cases hc
    · cases h

/-! ### a private block is adopted -/
theorem adopt {φ : Phi} {H : Heap} {w : World} {b : Nat} {cs : List C} (h : HRel lim φ H w) (hb : LocRel lim φ w b cs) (sz : Nat) :
    ∃ n, cs.length = n ∧ HRel lim (φ.add H.next ⟨b, 0, n, sz⟩) (H.alloc (.cells sz cs)) w := by
  obtain ⟨⟨A, el, hA, hr⟩, hfree⟩ := hb
  have hlen := hr.length
  simp only [Array.length_toList] at hlen
  have hlt := (Array.getElem?_eq_some_iff.1 hA).1
  have hmono := Phi.add_mono (φ := φ) ⟨b, 0, cs.length, sz⟩ (h.dom H.next (Nat.le_refl _))
  have hne : ∀ i c, H.get i = some c → ∀ p, φ i = some p → i ≠ H.next := fun i c _ p hp e => by rw [e, h.dom _ (Nat.le_refl _)] at hp; cases hp
  refine ⟨cs.length, rfl, ?_, ?_, ?_, ?_, ?_, ?_⟩
  · show lim ≤ H.next + 1; have := h.low; omega
  · intro i hi
    have : H.next + 1 ≤ i := hi
    simp only [Phi.add]; rw [if_neg (by omega)]; exact h.dom i (by omega)
  · intro i p hp
    by_cases e : i = H.next
    · simp only [Phi.add, e, if_true, Option.some.injEq] at hp; subst hp; exact hlt
    · simp only [Phi.add, e, if_false] at hp; exact h.bound i p hp
  · intro i sz' c hg
    by_cases e : i = H.next
    · subst e
      simp only [Heap.alloc, if_true, Option.some.injEq, Obj.cells.injEq] at hg
      obtain ⟨rfl, rfl⟩ := hg
      refine ⟨_, A, el, (0, 0), Phi.add_same _ _ _, hA, hlen.symm, by simp, fun _ => ⟨rfl, rfl⟩, fun j x hj => ?_⟩
      obtain ⟨v, hv, hx⟩ := hr.get hj
      exact ⟨v, by simpa using hv, hx.mono hmono⟩
    · simp only [Heap.alloc, e, if_false] at hg
      obtain ⟨p, A', el', fz, h1, h2, h3, h4, h5, h6⟩ := h.cells i sz' c hg
      exact ⟨p, A', el', fz, hmono _ _ h1, h2, h3, h4, h5, fun j x hj => by obtain ⟨v, hv, hx⟩ := h6 j x hj; exact ⟨v, hv, hx.mono hmono⟩⟩
  · intro i es hg
    by_cases e : i = H.next
    · subst e
      simp only [Heap.alloc, if_true, Option.some.injEq] at hg; cases hg
    · simp only [Heap.alloc, e, if_false] at hg
      obtain ⟨p, ES, clock, h1, h2, h3, h4⟩ := h.maps i es hg
      exact ⟨p, ES, clock, hmono _ _ h1, h2, h3.mono hmono, h4⟩
  · intro i j p q hlj hi hj hp hq e
    by_cases e1 : i = H.next <;> by_cases e2 : j = H.next
    · rw [e1, e2]
    · simp only [Phi.add, e1, e2, if_true, if_false, Option.some.injEq] at hp hq; subst hp
      exact absurd e.symm (hfree j q hq)
    · simp only [Phi.add, e1, e2, if_true, if_false, Option.some.injEq] at hp hq; subst hq
      exact absurd e (hfree i p hp)
    · simp only [Phi.add, e1, e2, if_false] at hp hq
      simp only [Heap.alloc, e1, e2, if_false] at hi hj
      exact h.inj i j p q hlj hi hj hp hq e
theorem Ext.adopt {φ0 φ : Phi} {w0 w : World} {H : Heap} {b n sz : Nat} (h : Ext lim φ0 w0 φ w) (hH : HRel lim φ H w) (hb : w0.heap.size ≤ b) : Ext lim φ0 w0 (φ.add H.next ⟨b, 0, n, sz⟩) w := by
  have hmono := Phi.add_mono (φ := φ) ⟨b, 0, n, sz⟩ (hH.dom H.next (Nat.le_refl _))
  refine ⟨fun i p hp => hmono _ _ (h.mono i p hp), fun i p hp => ?_, h.size, h.same, h.os, h.tape, h.output, h.froz⟩
  by_cases e : i = H.next
  · simp only [Phi.add, e, if_true, Option.some.injEq] at hp; subst hp
    exact .inr ⟨by rw [e]; exact hH.low, .inl hb⟩
  · simp only [Phi.add, e, if_false] at hp; exact h.fresh i p hp
theorem LocRel.adopt {φ : Phi} {w : World} {H : Heap} {b b' n sz : Nat} {cs : List C} (hH : HRel lim φ H w) (h : LocRel lim φ w b' cs) (hne : b' ≠ b) : LocRel lim (φ.add H.next ⟨b, 0, n, sz⟩) w b' cs := by
  have hmono := Phi.add_mono (φ := φ) ⟨b, 0, n, sz⟩ (hH.dom H.next (Nat.le_refl _))
  obtain ⟨⟨A, el, h1, h2⟩, h3⟩ := h
  refine ⟨⟨A, el, h1, h2.mono hmono⟩, fun j p hp => ?_⟩
  by_cases e : j = H.next
  · simp only [Phi.add, e, if_true, Option.some.injEq] at hp; subst hp; exact fun e' => hne e'.symm
  · simp only [Phi.add, e, if_false] at hp; exact h3 j p hp
theorem ERel.adopt {base : Nat} {φ : Phi} {ψ : Nat → Nat} {e : Env} {ts : Array Value} {w : World} {H : Heap} {b n sz : Nat} (h : ERel lim base φ ψ e ts w) (hH : HRel lim φ H w) (hne : ∀ (p : Nat) cs, e[p]? = some (.loc cs) → ψ p ≠ b) :
    ERel lim base (φ.add H.next ⟨b, 0, n, sz⟩) ψ e ts w := by
  have hmono := Phi.add_mono (φ := φ) ⟨b, 0, n, sz⟩ (hH.dom H.next (Nat.le_refl _))
  refine ⟨h.len, fun p t ht => ?_, h.inj, h.low⟩
  obtain ⟨x, hx, hr⟩ := h.tmp p t ht
  refine ⟨x, hx, ?_⟩
  cases t with
  | poison => trivial
  | val v => exact hr.mono hmono
  | loc cs => exact ⟨hr.1, hr.2.adopt hH (hne p cs ht)⟩
  | laddr q o => exact hr
end Go.Proofs.Ytnnjklkfcleleaa.Vm
