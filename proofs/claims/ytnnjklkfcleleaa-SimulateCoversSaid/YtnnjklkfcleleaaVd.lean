/-
  THE MACHINE AND THE MODEL: append, copy, make, maps.
-/
import Derived.Test.YtnnjklkfcleleaaVc
import Derived.Laws.MakeOwn
namespace Go.Proofs.Ytnnjklkfcleleaa.Vm
open Go
set_option linter.unusedVariables false
set_option linter.unusedSimpArgs false
variable {lim : Nat} {P : Program}

theorem run_info {t : TypeId} {i : TypeInfo} (h : P.info? t = some i) (w : World) : (typeInfo t).run P w = .ok i w := by
  simp [typeInfo, h]
theorem run_size {t : TypeId} {i : TypeInfo} (h : P.info? t = some i) (w : World) : (sizeOf t).run P w = .ok i.size w := by
  simp [sizeOf, run_info h]
theorem run_zero {t : TypeId} {i : TypeInfo} {z : Value} (h : P.info? t = some i) (hz : i.zero = some z) (w : World) : (zeroValue t).run P w = .ok z w := by
  simp [zeroValue, run_info h, hz]

/-- all cells of a slice value -/
theorem HRel.cellsOf {φ : Phi} {H : Heap} {w : World} (h : HRel lim φ H w) {sz : Nat} {x : C} {v : Value} (hx : CRel lim φ x v) {xs : List C} (hc : H.cellsOf sz x = some xs) {n : Nat} (hn : x.len = some n) :
    ∃ A : Array Value, (Builtin.lenOf v).run P w = .ok n w ∧ (Builtin.firstCells sz n v).run P w = .ok A w ∧ CsRel lim φ xs A.toList ∧ xs.length = n * sz := by
  cases hx <;> simp only [Heap.cellsOf, C.len, Option.some.injEq, reduceCtorEq] at hc hn
  · subst hc hn
    exact ⟨#[], by simp [Builtin.lenOf], by simp [Builtin.firstCells], .nil, by simp⟩
  · rename_i i o m off c p hp h1 h2 h3
    subst hn
    rcases h2 with rfl | rfl
    · have : m = 0 := by omega
      subst this
      have hxs : xs = [] := by
        unfold Heap.ldN at hc
        split at hc
        · split at hc
          · cases hc; simp
          · cases hc
        · cases hc
      subst hxs
      exact ⟨#[], by simp [Builtin.lenOf], by simp [Builtin.firstCells, loadCells, loadCellsFrom], .nil, by simp⟩
    · obtain ⟨A, hA, hr, hl⟩ := h.ldN (P := P) hc hp
      exact ⟨A, by simp [Builtin.lenOf], by simpa [Builtin.firstCells] using hA, hr, hl⟩
  · subst hn
    have hxs : xs = [] := by
      unfold Heap.ldN at hc
      split at hc
      · split at hc
        · cases hc; simp
        · cases hc
      · cases hc
    subst hxs
    exact ⟨#[], by simp [Builtin.lenOf], by simp [Builtin.firstCells, loadCells, loadCellsFrom], .nil, by simp⟩

/-- the first cells of a slice value -/
theorem HRel.firstOf {φ : Phi} {H : Heap} {w : World} (h : HRel lim φ H w) {sz n k : Nat} {x : C} {v : Value} (hx : CRel lim φ x v) {xs : List C} (hc : H.cellsOf sz x = some xs) (hn : x.len = some n) (hk : k ≤ n) :
    ∃ A : Array Value, (Builtin.firstCells sz k v).run P w = .ok A w ∧ CsRel lim φ (xs.take (k * sz)) A.toList := by
  cases hx <;> simp only [Heap.cellsOf, C.len, Option.some.injEq, reduceCtorEq] at hc hn
  · subst hc hn
    exact ⟨#[], by simp [Builtin.firstCells], by simp; exact .nil⟩
  · rename_i i o m off c p hp h1 h2 h3
    subst hn
    rcases h2 with rfl | rfl
    · have : m = 0 := by omega
      subst this
      have : k = 0 := by omega
      subst this
      exact ⟨#[], by simp [Builtin.firstCells, loadCells, loadCellsFrom], by simp; exact .nil⟩
    · have hkm : k * sz ≤ m * sz := Nat.mul_le_mul_right _ hk
      have : H.ldN i o (k * sz) = some (xs.take (k * sz)) := by
        unfold Heap.ldN at hc ⊢
        split at hc
        · rename_i sz' c' hg
          split at hc
          · rename_i hh
            cases hc
            rw [if_pos (by omega), List.take_take]
            congr 2
            omega
          · cases hc
        · cases hc
      obtain ⟨A, hA, hr, hl⟩ := h.ldN (P := P) this hp
      exact ⟨A, by simpa [Builtin.firstCells] using hA, hr⟩
  · subst hn
    have : k = 0 := by omega
    subst this
    exact ⟨#[], by simp [Builtin.firstCells, loadCells, loadCellsFrom], by simp; exact .nil⟩

/-- a cell is added in place -/
theorem HRel.grow {φ : Phi} {H : Heap} {w : World} {i sz : Nat} {c : List C} (h : HRel lim φ H w) (hg : H.get i = some (.cells sz c)) (hl : lim ≤ i) {x : C} {v : Value}
    (hx : CRel lim φ x v) {p : Pl} (hp : φ i = some p) (ho : p.sh + c.length < p.n) :
    HRel lim φ (H.put i (.cells sz (c ++ [x]))) (w.setCell ⟨p.blk, p.sh + c.length, none⟩ v) ∧ Ext lim φ w φ (w.setCell ⟨p.blk, p.sh + c.length, none⟩ v) ∧
      (w.cell? ⟨p.blk, p.sh + c.length, none⟩).isSome = true ∧ w.frozen? ⟨p.blk, p.sh + c.length, none⟩ = false := by
  obtain ⟨p', A, el, fz, h1, h2, h3, h4, h5, h6⟩ := h.cells i _ _ hg
  rw [hp] at h1; cases h1
  obtain ⟨hsz, rfl⟩ := h5 hl
  have hnew : (w.setCell ⟨p.blk, p.sh + c.length, none⟩ v).heap[p.blk]? = some (.cells (A.setIfInBounds (p.sh + c.length) v) el (0, 0)) := heap_setCell_same w p.blk (p.sh + c.length) A el v h2
  have hoth : ∀ b, b ≠ p.blk → (w.setCell ⟨p.blk, p.sh + c.length, none⟩ v).heap[b]? = w.heap[b]? := fun b hb => heap_setCell_other w _ b v hb
  refine ⟨⟨h.low, h.dom, fun j q hq => by simpa using h.bound j q hq, ?_, ?_, ?_⟩, ⟨fun _ _ hq => hq, fun _ _ hq => .inl hq, by simp, ?_, rfl, rfl, rfl, fun a => by simp⟩, ?_, ?_⟩
  · intro j sz' c' hj
    by_cases e : j = i
    · subst e
      simp only [Heap.put, if_true, Option.some.injEq, Obj.cells.injEq] at hj
      obtain ⟨rfl, rfl⟩ := hj
      refine ⟨p, _, el, (0, 0), hp, hnew, by simpa using h3, by simp; omega, fun _ => ⟨hsz, rfl⟩, fun k y hk => ?_⟩
      by_cases ek : k = c.length
      · subst ek
        rw [List.getElem?_append_right (Nat.le_refl _)] at hk
        simp at hk; subst hk
        exact ⟨v, by rw [Array.getElem?_setIfInBounds]; simp; omega, hx⟩
      · have hlt : k < c.length := by
          have := (List.getElem?_eq_some_iff.1 hk).1
          simp at this; omega
        rw [List.getElem?_append_left hlt] at hk
        obtain ⟨u, hu, hr⟩ := h6 k y hk
        exact ⟨u, by rw [Array.getElem?_setIfInBounds, if_neg (by omega)]; exact hu, hr⟩
    · simp only [Heap.put, e, if_false] at hj
      obtain ⟨q, B, el', fz', g1, g2, g3, g4, g5, g6⟩ := h.cells j _ _ hj
      have hne : q.blk ≠ p.blk := fun eb => e (h.inj j i q p hl (by rw [hj]; simp) (by rw [hg]; simp) g1 hp eb)
      exact ⟨q, B, el', fz', g1, by rw [hoth _ hne]; exact g2, g3, g4, g5, g6⟩
  · intro j es hj
    by_cases e : j = i
    · subst e; simp [Heap.put] at hj
    · simp only [Heap.put, e, if_false] at hj
      obtain ⟨q, ES, clock, g1, g2, g3⟩ := h.maps j _ hj
      have hne : q.blk ≠ p.blk := fun eb => e (h.inj j i q p hl (by rw [hj]; simp) (by rw [hg]; simp) g1 hp eb)
      exact ⟨q, ES, clock, g1, by rw [hoth _ hne]; exact g2, g3⟩
  · intro a b q r hlb ha hb hq hr e
    refine h.inj a b q r hlb ?_ ?_ hq hr e
    · by_cases ea : a = i
      · rw [ea, hg]; simp
      · simpa [Heap.put, ea] using ha
    · by_cases eb : b = i
      · rw [eb, hg]; simp
      · simpa [Heap.put, eb] using hb
  · intro b hb hn
    exact hoth b fun e => hn i p hl hp e.symm
  · rw [cell_of_row w _ _ _ _ _ h2]
    simp; omega
  · exact frozen_of_row w _ _ _ _ h2

theorem HRel.grows {φ : Phi} {i sz : Nat} (hl : lim ≤ i) {p : Pl} (hp : φ i = some p) : ∀ (xs : List C) (vs : List Value) (c : List C) (H : Heap) (w : World) (k : Nat) (a : Addr),
    HRel lim φ H w → H.get i = some (.cells sz c) → p.sh + c.length + xs.length ≤ p.n → CsRel lim φ xs vs → a.spot = none → a.block = p.blk → a.off + k = p.sh + c.length →
    ∃ w', (storeCells a vs k).run P w = .ok () w' ∧ HRel lim φ (H.put i (.cells sz (c ++ xs))) w' ∧ Ext lim φ w φ w'
  | [], _, c, H, w, k, a, h, hg, ho, hx, hs, hb, hk => by
    cases hx
    exact ⟨w, rfl, by rw [List.append_nil, Heap.put_self _ _ _ hg]; exact h, .refl _ _⟩
  | x :: xs, _, c, H, w, k, a, h, hg, ho, hx, hs, hb, hk => by
    cases hx with
    | @cons _ v _ vs hv hvs =>
      simp only [List.length_cons] at ho
      obtain ⟨h1, h2, h3, h4⟩ := h.grow hg hl hv hp (by omega)
      have hadd : a.add k = ⟨p.blk, p.sh + c.length, none⟩ := by
        obtain ⟨ab, ao, as⟩ := a
        simp only at hs hb hk
        subst hs hb
        rw [Addr.add_lit]
        simp [hk]
      obtain ⟨w', hw', h5, h6⟩ := HRel.grows hl hp xs vs (c ++ [x]) _ _ (k + 1) a h1 (Heap.put_get _ _ _) (by simp; omega) hvs hs hb (by simp; omega)
      refine ⟨w', ?_, by rw [Heap.put_put] at h5; simpa using h5, h2.trans h6⟩
      obtain ⟨u, hu⟩ := Option.isSome_iff_exists.1 h3
      simp only [storeCells, Sem.run_bind]
      rw [hadd, run_store P w _ v .plain hv.one, hu]
      simp only [h4, Bool.false_eq_true, if_false, Result.andThen_ok]
      exact hw'

/-- an object gets a new handle, for what it holds from a place on -/
theorem HRel.rename {φ : Phi} {H : Heap} {w : World} {i sz d n : Nat} {cs : List C} (h : HRel lim φ H w) (hg : H.get i = some (.cells sz cs)) (hl : lim ≤ i) {p : Pl} (hp : φ i = some p)
    (ho : d + n ≤ cs.length) :
    HRel lim (φ.add H.next ⟨p.blk, p.sh + d, p.n, sz⟩) ((H.kill i).alloc (.cells sz ((cs.drop d).take n))) w ∧ Ext lim φ w (φ.add H.next ⟨p.blk, p.sh + d, p.n, sz⟩) w := by
  obtain ⟨p', A, el, fz, h1, h2, h3, h4, h5, h6⟩ := h.cells i _ _ hg
  rw [hp] at h1; cases h1
  obtain ⟨hsz, rfl⟩ := h5 hl
  have hnone := h.dom H.next (Nat.le_refl _)
  have hmono := Phi.add_mono (φ := φ) ⟨p.blk, p.sh + d, p.n, sz⟩ hnone
  refine ⟨⟨by show lim ≤ H.next + 1; have := h.low; omega, ?_, ?_, ?_, ?_, ?_⟩, ⟨hmono, fun j q hq => ?_, Nat.le_refl _, fun _ _ _ => rfl, rfl, rfl, rfl, fun _ => rfl⟩⟩
  · intro j hj
    have : H.next + 1 ≤ j := hj
    have e : j ≠ H.next := by omega
    simp only [Phi.add, e, if_false]
    exact h.dom j (by omega)
  · intro j q hq
    by_cases e : j = H.next
    · simp only [Phi.add, e, if_true, Option.some.injEq] at hq; subst hq; exact h.bound i p hp
    · simp only [Phi.add, e, if_false] at hq; exact h.bound j q hq
  · intro j sz' c' hj
    by_cases e : j = H.next
    · subst e
      rw [show ((H.kill i).alloc (.cells sz ((cs.drop d).take n))).get H.next = some (.cells sz ((cs.drop d).take n)) from by simp [Heap.alloc, Heap.kill]] at hj
      simp only [Option.some.injEq, Obj.cells.injEq] at hj
      obtain ⟨rfl, rfl⟩ := hj
      refine ⟨_, A, el, (0, 0), Phi.add_same _ _ _, h2, h3, by simp; omega, fun _ => ⟨rfl, rfl⟩, fun a y hy => ?_⟩
      have ha : a < n := by
        have := (List.getElem?_eq_some_iff.1 hy).1
        simp at this; omega
      rw [List.getElem?_take_of_lt ha, List.getElem?_drop] at hy
      obtain ⟨u, hu, hru⟩ := h6 _ y hy
      exact ⟨u, by simp only; rw [show p.sh + d + a = p.sh + (d + a) by omega]; exact hu, hru.mono hmono⟩
    · simp only [Heap.alloc, Heap.kill, e, if_false] at hj
      split at hj
      · cases hj
      · obtain ⟨q, D, el2, fz2, f1, f2, f3, f4, f5, f6⟩ := h.cells j _ _ hj
        exact ⟨q, D, el2, fz2, hmono _ _ f1, f2, f3, f4, f5, fun a y hy => let ⟨u, hu, hru⟩ := f6 a y hy; ⟨u, hu, hru.mono hmono⟩⟩
  · intro j es hj
    by_cases e : j = H.next
    · subst e; simp [Heap.alloc, Heap.kill] at hj
    · simp only [Heap.alloc, Heap.kill, e, if_false] at hj
      split at hj
      · cases hj
      · obtain ⟨q, ES, clock, f1, f2, f3, f4⟩ := h.maps j es hj
        exact ⟨q, ES, clock, hmono _ _ f1, f2, f3.mono hmono, f4⟩
  · intro a b q r hlb ha hb hq hr e
    by_cases ea : a = H.next <;> by_cases eb : b = H.next
    · rw [ea, eb]
    · simp only [Phi.add, ea, eb, if_true, if_false, Option.some.injEq] at hq hr; subst hq
      simp only [Heap.alloc, Heap.kill, eb, if_false] at hb
      by_cases ebi : b = i
      · simp [ebi] at hb
      · simp only [ebi, if_false] at hb
        exact absurd (h.inj b i r p hl hb (by rw [hg]; simp) hr hp e.symm) ebi
    · simp only [Phi.add, ea, eb, if_true, if_false, Option.some.injEq] at hq hr; subst hr
      simp only [Heap.alloc, Heap.kill, ea, if_false] at ha
      by_cases eai : a = i
      · simp [eai] at ha
      · simp only [eai, if_false] at ha
        exact absurd (h.inj a i q p hl ha (by rw [hg]; simp) hq hp e) eai
    · simp only [Phi.add, ea, eb, if_false] at hq hr
      simp only [Heap.alloc, Heap.kill, ea, eb, if_false] at ha hb
      by_cases eai : a = i
      · simp [eai] at ha
      · by_cases ebi : b = i
        · simp [ebi] at hb
        · simp only [eai, ebi, if_false] at ha hb
          exact h.inj a b q r hlb ha hb hq hr e
  · by_cases e : j = H.next
    · simp only [Phi.add, e, if_true, Option.some.injEq] at hq; subst hq
      exact .inr ⟨by rw [e]; exact h.low, .inr ⟨i, p, hl, hp, rfl⟩⟩
    · simp only [Phi.add, e, if_false] at hq; exact .inl hq

theorem Heap.alloc_put (H : Heap) (a b : Obj) : (H.alloc a).put H.next b = H.alloc b := by
  simp only [Heap.put, Heap.alloc, Heap.mk.injEq, true_and]; funext j; by_cases e : j = H.next <;> simp [e]

theorem HRel.kill {φ : Phi} {H : Heap} {w : World} (h : HRel lim φ H w) (i : Nat) : HRel lim φ (H.kill i) w := by
  refine ⟨h.low, h.dom, h.bound, fun j sz c hj => ?_, fun j es hj => ?_, fun a b p q hlb ha hb hp hq e => ?_⟩
  · simp only [Heap.kill] at hj; split at hj
    · cases hj
    · exact h.cells j _ _ hj
  · simp only [Heap.kill] at hj; split at hj
    · cases hj
    · exact h.maps j _ hj
  · refine h.inj a b p q hlb ?_ ?_ hp hq e
    · intro hn; apply ha; simp only [Heap.kill]; split <;> simp_all
    · intro hn; apply hb; simp only [Heap.kill]; split <;> simp_all

theorem HRel.app {φ : Phi} {H H' : Heap} {w : World} (h : HRel lim φ H w) {sz n : Nat} {s x r : C} {sv xv : Value} (hs : CRel lim φ s sv) (hx : CRel lim φ x xv) {xs : List C} (hxs : H.cellsOf sz x = some xs) (hxl : x.len = some n)
    (happ : H.app lim sz s xs n = some (r, H')) (ts : Array TypeId) (ty sT xT e xe : TypeId) (i : TypeInfo) (z : Value) (h0 : ts[0]? = some sT) (h1 : ts[1]? = some xT) (hu : P.underlying sT = some (.slice e))
    (hxu : P.underlying xT = some (.slice xe)) (hi : P.info? e = some i) (hz : i.zero = some z) (hsz : i.size = sz) (hzs : z.cells.size = i.size) (hb0 : 0 < i.bytes) (hb : i.bytes ≤ 2048) :
    ∃ rv w' φ', (Builtin.append_ ts ty #[sv, xv]).run P w = .ok rv w' ∧ HRel lim φ' H' w' ∧ Ext lim φ w φ' w' ∧ CRel lim φ' r rv := by
  obtain ⟨A, hA1, hA2, hA3, hA4⟩ := h.cellsOf (P := P) hx hxs hxl
  obtain ⟨B, hB1, hB2, hB3, hB4⟩ := h.drew.cellsOf (P := P) hx hxs hxl
  subst hsz
  have hgrow : ∀ (sLen sCap : Nat) (base : Option Addr) (old : Array Value) (os : List C), sCap < sLen + n → roomy (sLen + n) → (Builtin.firstCells i.size sLen (.slice base sLen sCap)).run P w.drew = .ok old w.drew →
      CsRel lim φ os old.toList → os.length = sLen * i.size →
      ∃ rv w' φ', (Builtin.append_ ts ty #[.slice base sLen sCap, xv]).run P w = .ok rv w' ∧ HRel lim φ' (H.alloc (.cells i.size (os ++ xs))) w' ∧ Ext lim φ w φ' w' ∧ CRel lim φ' (.slice H.next 0 (sLen + n)) rv := by
    intro sLen sCap base old os hcap hroom hold hos hol
    have hnc : Builtin.nextslicecap (sLen + n) sCap * i.bytes ≤ 281474976710656 := by
      refine growslice_fits hcap ?_
      have : (sLen + n) * i.bytes ≤ 2 ^ 36 * 2048 := Nat.mul_le_mul hroom hb
      exact Nat.le_trans this (by decide)
    have hnb : ¬ (i.bytes = 0) := by omega
    have hnot : ¬ (281474976710656 < Builtin.nextslicecap (sLen + n) sCap * i.bytes) := by omega
    generalize hnc' : (sLen + n) + (w.tape w.drawn (.appendCap (sLen + n) sCap e)) % (2 ^ 63 - (sLen + n)) = nc
    have hge : sLen + n ≤ nc := by omega
    have hrun : (Builtin.append_ ts ty #[.slice base sLen sCap, xv]).run P w = .ok (.slice (some ⟨w.heap.size, 0, none⟩) (sLen + n) nc) (w.drew.alloc (.cells (old ++ B ++ Builtin.zeroCells z.cells (nc - (sLen + n))) e)) := by
      have hcut : (Question.appendCap (sLen + n) sCap e).cut (w.tape w.drawn (.appendCap (sLen + n) sCap e)) = nc := hnc'
      have hf : (Question.appendCap (sLen + n) sCap e).forced = false := rfl
      have hcap2 : ¬ (sLen + n ≤ sCap) := by omega
      simp [Builtin.append_, h0, h1, run_underlying hu, run_underlying hxu, run_size hi, run_info hi, run_zero hi hz, hA1, hcap2, hnb, hnot, hf, hcut, hold, hB2, newRow]
    have hcs : CsRel lim φ (os ++ xs) (old ++ B).toList := by simpa using hos.append hB3
    obtain ⟨hr, hext⟩ := h.drew.alloc (.cells i.size (os ++ xs)) (.cells (old ++ B ++ Builtin.zeroCells z.cells (nc - (sLen + n))) e) (old ++ B ++ Builtin.zeroCells z.cells (nc - (sLen + n))).size i.size
      (fun sz' c' e' => by
        cases e'
        have hl := hcs.length
        refine ⟨_, e, rfl, rfl, rfl, by simp at hl ⊢; omega, fun j x hj => ?_⟩
        obtain ⟨v, hv, hr⟩ := hcs.get hj
        refine ⟨v, ?_, hr⟩
        rw [Array.getElem?_append_left (by have := (List.getElem?_eq_some_iff.1 hv).1; simpa using this)]
        rw [← Array.getElem?_toList]; exact hv)
      (fun es e' => by cases e')
    refine ⟨_, _, _, hrun, hr, (Ext.refl φ w).drew.trans hext, .slice (Phi.add_same _ _ _) hge (.inr rfl) (fun _ => .inr ?_)⟩
    have hl := hcs.length
    have hsz2 : (old ++ B ++ Builtin.zeroCells z.cells (nc - (sLen + n))).size = (sLen + n) * i.size + (nc - (sLen + n)) * i.size := by
      simp [Builtin.zeroCells, hzs] at hl ⊢
      rw [Nat.add_mul]; omega
    simp only [hsz2, ← Nat.add_mul]
    rw [Nat.add_sub_cancel' hge]
    omega
  cases hs <;> simp only [Heap.app, reduceCtorEq] at happ
  · -- nil
    split at happ
    · rename_i hn
      cases happ
      subst hn
      refine ⟨.slice none 0 0, w, φ, ?_, h, .refl _ _, .nilSlice⟩
      simp [Builtin.append_, h0, h1, run_underlying hu, run_underlying hxu, run_size hi, hA1, hA2]
    · rename_i hn
      split at happ
      · rename_i hroom
        cases happ
        simpa using hgrow 0 0 none #[] [] (by omega) (by simpa using hroom) (by simp [Builtin.firstCells]) .nil (by simp)
      · cases happ
  · rename_i id o m off c p hp hmc hoff hfit
    split at happ
    · rename_i sz' cs hg
      split at happ
      · rename_i hc
        obtain ⟨hl, rfl, hle, hroom⟩ := hc
        cases happ
        by_cases hcap : m + n ≤ c
        · -- in place
          by_cases hc0 : c = 0
          · have hm0 : m = 0 := by omega
            have hn0 : n = 0 := by omega
            subst hc0 hm0 hn0
            have hx0 : xs = [] := List.eq_nil_of_length_eq_zero (by simpa using hA4)
            subst hx0
            have hA0 : A = #[] := by have := hA3.length; simp at this; exact Array.eq_empty_of_size_eq_zero (by omega)
            subst hA0
            obtain ⟨hr, hext⟩ := h.rename (d := 0) (n := 0) hg hl hp (by omega)
            refine ⟨.slice (some ⟨p.blk, off, none⟩) 0 0, w, _, ?_, by simpa using hr, hext, .slice (p := ⟨p.blk, p.sh + 0, p.n, i.size⟩) (Phi.add_same _ _ _) (Nat.le_refl _) (.inl rfl) (fun _ => .inl rfl)⟩
            simp [Builtin.append_, h0, h1, run_underlying hu, run_underlying hxu, run_size hi, hA1, hA2, storeCells]
          · have hoff := hoff.resolve_left hc0
            subst hoff
            have hfit := (hfit hl).resolve_left hc0
            obtain ⟨q, AA, el, fz, g1, g2, g3, g4, g5, g6⟩ := h.cells id _ _ hg
            rw [hp] at g1; cases g1
            obtain ⟨hsz, -⟩ := g5 hl
            rw [hsz] at hfit
            have hmn : (m + n) * i.size ≤ c * i.size := Nat.mul_le_mul_right _ hcap
            rw [Nat.add_mul] at hmn
            obtain ⟨hr, hext⟩ := h.rename (d := o) (n := m * i.size) hg hl hp (by omega)
            have hlen1 : ((cs.drop o).take (m * i.size)).length = m * i.size := by simp; omega
            obtain ⟨w', hw', hr2, hext2⟩ := HRel.grows (P := P) (sz := i.size) h.low (Phi.add_same _ _ _) xs A.toList ((cs.drop o).take (m * i.size)) _ _ 0 ⟨p.blk, p.sh + o + m * i.size, none⟩ hr (by simp [Heap.alloc, Heap.kill])
              (by rw [hlen1]; simp only; omega) (hA3.mono (Phi.add_mono _ (h.dom _ (Nat.le_refl _)))) rfl rfl (by rw [hlen1]; simp only; omega)
            have halloc : ((H.kill id).alloc (.cells i.size ((cs.drop o).take (m * i.size)))).put H.next (.cells i.size ((cs.drop o).take (m * i.size) ++ xs)) = (H.kill id).alloc (.cells i.size ((cs.drop o).take (m * i.size) ++ xs)) := Heap.alloc_put (H.kill id) _ _
            rw [halloc] at hr2
            refine ⟨.slice (some ⟨p.blk, p.sh + o, none⟩) (m + n) c, w', _, ?_, hr2, hext.trans hext2, .slice (p := ⟨p.blk, p.sh + o, p.n, i.size⟩) (Phi.add_same _ _ _) hcap (.inr rfl) (fun _ => .inr hfit)⟩
            simp [Builtin.append_, h0, h1, run_underlying hu, run_underlying hxu, run_size hi, hA1, hA2, hcap, Addr.add_lit, hw']
        · -- a new row
          have hslen : H.cellsOf i.size (.slice id o m) = some ((cs.drop o).take (m * i.size)) := by
            simp only [Heap.cellsOf, Heap.ldN, hg]; rw [if_pos hle]
          obtain ⟨D, hD1, hD2, hD3, hD4⟩ := h.drew.cellsOf (P := P) (.slice hp hmc hoff hfit) hslen rfl
          obtain ⟨rv, w', φ', a1, a2, a3, a4⟩ := hgrow m c (some ⟨p.blk, off, none⟩) D _ (by omega) hroom hD2 hD3 hD4
          refine ⟨rv, w', φ', a1, ?_, a3, a4⟩
          have hne : id ≠ H.next := fun e' => by rw [e', h.dom _ (Nat.le_refl _)] at hp; cases hp
          have : (H.kill id).alloc (.cells i.size ((cs.drop o).take (m * i.size) ++ xs)) = (H.alloc (.cells i.size ((cs.drop o).take (m * i.size) ++ xs))).kill id := by
            simp only [Heap.kill, Heap.alloc, Heap.mk.injEq, true_and]; funext j
            by_cases e2 : j = id
            · subst e2; simp [hne]
            · simp [e2]
          rw [this]
          exact a2.kill id
      · cases happ
    · cases happ
  · split at happ
    · split at happ
      · omega
      · cases happ
    · cases happ

theorem HRel.copy {φ : Phi} {H H' : Heap} {w : World} (h : HRel lim φ H w) {sz n r : Nat} {d x : C} {dv xv : Value} (hd : CRel lim φ d dv) (hx : CRel lim φ x xv) {xs : List C} (hxs : H.cellsOf sz x = some xs) (hxl : x.len = some n)
    (hcopy : H.copy lim sz d xs n = some (r, H')) (ts : Array TypeId) (ty dT e : TypeId) (i : TypeInfo) (h0 : ts[0]? = some dT) (hu : P.underlying dT = some (.slice e)) (hi : P.info? e = some i) (hsz : i.size = sz) :
    ∃ w', (Builtin.copy_ ts ty #[dv, xv]).run P w = .ok (.int .i64 r) w' ∧ HRel lim φ H' w' ∧ Ext lim φ w φ w' := by
  obtain ⟨A0, hA1, hA2, hA3, hA4⟩ := h.cellsOf (P := P) hx hxs hxl
  subst hsz
  cases hd <;> simp only [Heap.copy, reduceCtorEq] at hcopy
  · cases hcopy
    obtain ⟨A, hA, hr⟩ := h.firstOf (P := P) (k := 0) hx hxs hxl (Nat.zero_le _)
    refine ⟨w, ?_, h, .refl _ _⟩
    simp [Builtin.copy_, h0, run_underlying hu, run_size hi, hA1, Nat.min_zero, hA, goInt]
  · rename_i id o m off c p hp hmc hoff hfit
    obtain ⟨A, hA, hr⟩ := h.firstOf (P := P) (k := Nat.min n m) hx hxs hxl (Nat.min_le_left _ _)
    cases hst : H.st lim id o (xs.take (Nat.min n m * i.size)) with
    | none => rw [hst] at hcopy; cases hcopy
    | some H1 =>
      rw [hst] at hcopy
      simp only [Option.map_some, Option.some.injEq, Prod.mk.injEq] at hcopy
      obtain ⟨rfl, rfl⟩ := hcopy
      by_cases hc0 : c = 0
      · have hm0 : m = 0 := by omega
        subst hc0 hm0
        have hmin : Nat.min n 0 = 0 := Nat.min_zero n
        rw [hmin] at hA hr hst
        simp only [Nat.zero_mul, List.take_zero] at hr hst
        have hAe : A.toList = [] := by cases hh : A.toList with
          | nil => rfl
          | cons a b => rw [hh] at hr; cases hr
        obtain ⟨w', hw', hr2, he2⟩ := h.st (P := P) hst .nil hp
        simp only [storeCells, Sem.run_pure, Result.ok.injEq, true_and] at hw'
        subst hw'
        refine ⟨w, ?_, hr2, he2⟩
        simp [Builtin.copy_, h0, run_underlying hu, run_size hi, hA1, hmin, hA, hAe, storeCells, goInt]
      · have hoff := hoff.resolve_left hc0
        subst hoff
        obtain ⟨w', hw', hr2, he2⟩ := h.st (P := P) hst hr hp
        refine ⟨w', ?_, hr2, he2⟩
        simp [Builtin.copy_, h0, run_underlying hu, run_size hi, hA1, hA, hw', goInt]
  · rename_i id o a hlt
    exfalso
    cases hst : H.st lim id o (xs.take (Nat.min n 0 * i.size)) with
    | none => rw [hst] at hcopy; cases hcopy
    | some H1 =>
      unfold Heap.st at hst
      split at hst
      · split at hst
        · omega
        · cases hst
      · cases hst

theorem range_flatten (zs : List Value) (d : Value) : ∀ (n : Nat), (List.range (n * zs.length)).map (fun j => (zs[j % zs.length]?).getD d) = (List.replicate n zs).flatten
  | 0 => by simp
  | n + 1 => by
    have ih := range_flatten zs d n
    rw [Nat.add_mul, Nat.one_mul, List.range_add, List.map_append, ih, List.replicate_succ', List.flatten_append]
    congr 1
    simp only [List.map_map, List.flatten_cons, List.flatten_nil, List.append_nil]
    refine List.ext_getElem (by simp) fun j h1 h2 => ?_
    simp only [List.length_map, List.length_range] at h1
    simp [Function.comp, Nat.mul_add_mod_of_lt h1, Nat.add_mod, Nat.mod_eq_of_lt h1, h1]

theorem zeroCells_rel {φ : Phi} {z : List C} {zs : Array Value} (h : CsRel lim φ z zs.toList) (n : Nat) : CsRel lim φ (List.replicate n z).flatten (Builtin.zeroCells zs n).toList := by
  have := h.flatten n
  rw [← range_flatten zs.toList default n] at this
  have e : (Builtin.zeroCells zs n).toList = (List.range (n * zs.toList.length)).map fun j => (zs.toList[j % zs.toList.length]?).getD default := by
    simp only [Builtin.zeroCells, Array.toList_map, Array.toList_range, Array.length_toList]
    refine List.map_congr_left fun j _ => ?_
    simp [getElem!_def]
    cases zs[j % zs.size]? <;> rfl
  rw [e]; exact this
theorem HRel.clr {φ : Phi} {H H' : Heap} {w : World} (h : HRel lim φ H w) {z : List C} {s : C} {sv : Value} (hs : CRel lim φ s sv) (hc : H.clr lim z s = some H') (ts : Array TypeId) (ty sT e : TypeId) (i : TypeInfo) (zv : Value) (h0 : ts[0]? = some sT) (hu : P.underlying sT = some (.slice e))
    (hi : P.info? e = some i) (hz : i.zero = some zv) (hzr : CsRel lim φ z zv.cells.toList) : ∃ w', (Builtin.clear_ ts ty #[sv]).run P w = .ok (.tuple #[]) w' ∧ HRel lim φ H' w' ∧ Ext lim φ w φ w' := by
  cases hs <;> simp only [Heap.clr, reduceCtorEq] at hc
  · cases hc
    exact ⟨w, by simp [Builtin.clear_, h0, run_underlying hu], h, .refl _ _⟩
  · rename_i id o n off c p hp hmc hoff hfit
    split at hc
    · rename_i hn; cases hc; subst hn
      exact ⟨w, by simp [Builtin.clear_, h0, run_underlying hu], h, .refl _ _⟩
    · rename_i hn
      have hoff := hoff.resolve_left (by omega)
      subst hoff
      obtain ⟨w', hw', hr, he⟩ := h.st (P := P) hc (zeroCells_rel hzr n) hp
      refine ⟨w', ?_, hr, he⟩
      obtain ⟨m, rfl⟩ : ∃ m, n = m + 1 := ⟨n - 1, by omega⟩
      simp [Builtin.clear_, h0, run_underlying hu, run_zero hi hz, hw']
  · simp only [if_true, Option.some.injEq] at hc
    subst hc
    exact ⟨w, by simp [Builtin.clear_, h0, run_underlying hu], h, .refl _ _⟩
theorem HRel.mkS {φ : Phi} {H : Heap} {w : World} (h : HRel lim φ H w) {sz : Nat} {z : List C} {n : Int} (h0 : 0 ≤ n) (hn : n ≤ 2 ^ 36) (t e : TypeId) (i : TypeInfo) (zv : Value) (hu : P.underlying t = some (.slice e)) (hi : P.info? e = some i)
    (hz : i.zero = some zv) (hsz : i.size = sz) (hzr : CsRel lim φ z zv.cells.toList) (hzl : zv.cells.size = i.size) (hb : i.bytes ≤ 2048) :
    ∃ rv w' φ', (Instr.makeSlice t (.int .i64 n) (.int .i64 n)).run P w = .ok rv w' ∧ HRel lim φ' (H.alloc (.cells sz (List.replicate n.toNat z).flatten)) w' ∧ Ext lim φ w φ' w' ∧ CRel lim φ' (.slice H.next 0 n.toNat) rv := by
  subst hsz
  obtain ⟨n, rfl⟩ := Int.eq_ofNat_of_zero_le h0
  have hn' : n ≤ 2 ^ 36 := by omega
  have hbn : i.bytes * n ≤ 2 ^ 47 := Nat.le_trans (Nat.mul_le_mul hb hn') (by decide)
  have hrel : CsRel lim φ (List.replicate n z).flatten (madeCells zv.cells (n * i.size)).toList := by
    have := hzr.flatten n
    rw [← range_flatten zv.cells.toList default n] at this
    have e : (madeCells zv.cells (n * i.size)).toList = (List.range (n * zv.cells.toList.length)).map fun j => (zv.cells.toList[j % zv.cells.toList.length]?).getD default := by
      simp only [madeCells, Array.toList_map, Array.toList_range, Array.length_toList, hzl]
      refine List.map_congr_left fun j _ => ?_
      rw [getElem!_def, Array.getElem?_toList]
      cases zv.cells[j % i.size]? <;> rfl
    rw [e]; exact this
  obtain ⟨hr, hext⟩ := h.alloc_cells i.size _ _ e hrel
  have hlt : (i.bytes : Int) * (n : Int) ≤ 281474976710656 := by
    have : ((i.bytes * n : Nat) : Int) ≤ 2 ^ 47 := by exact_mod_cast hbn
    push_cast at this
    omega
  have hs : (madeCells zv.cells (n * i.size)).size = n * i.size := size_madeCells _ _
  refine ⟨_, _, _, run_make w t e i zv hu hi hz .i64 .i64 n n h0 (Int.le_refl _) hlt (by omega), by simpa using hr, hext, .slice (Phi.add_same _ _ _) (by simp) (.inr rfl) (fun _ => .inr (by simp [hs]))⟩

/-! ### maps -/
theorem ba_beq (a b : ByteArray) : (a == b) = decide (a = b) := by
  cases a with | mk a => cases b with | mk b =>
  show ByteArray.beq _ _ = _
  simp [ByteArray.beq]
  by_cases h : a = b
  · subst h; simp
  · simp [h]
def KK.fits : KK → TypeDesc → Bool
  | .int, .int _ => true
  | .str, .string => true
  | .bool, .bool => true
  | _, _ => false

theorem same_now {φ : Phi} {kk : KK} {d : TypeDesc} (hd : kk.fits d = true) {a b : C} {x y : Value} (ha : CRel lim φ a x) (hb : CRel lim φ b y) {r : Bool} (h : sameKey kk a b = some r) : Instr.sameNow d x y = some r := by
  cases kk <;> cases d <;> simp [KK.fits] at hd <;> cases ha <;> cases hb <;> simp_all [sameKey, Instr.sameNow]
theorem same_bits {φ : Phi} {kk : KK} {a b : C} {x y : Value} (ha : CRel lim φ a x) (hb : CRel lim φ b y) (h : sameKey kk a b = some true) (n : Nat) : Instr.sameBits n y x = true := by
  cases kk <;> cases ha <;> cases hb <;> simp_all [sameKey, Instr.sameBits]
  rw [ba_beq] at h ⊢; simp_all

theorem same_eq {kk : KK} {k a : C} (h : sameKey kk k a = some true) : a = k := by
  cases kk <;> cases k <;> cases a <;> simp_all [sameKey]
  rw [ba_beq] at h; simp at h; exact h.symm
theorem mem_modify {α : Type} {f : α → α} {j : Nat} {l : List α} {e : α} (h : e ∈ l.modify j f) : e ∈ l ∨ ∃ a ∈ l, e = f a := by
  obtain ⟨i, hi⟩ := List.mem_iff_getElem?.1 h
  rw [List.getElem?_modify] at hi
  cases hl : l[i]? with
  | none => rw [hl] at hi; cases hi
  | some a =>
    rw [hl] at hi
    have hi : (if j = i then f a else a) = e := by simpa using hi
    have ha : a ∈ l := List.mem_iff_getElem?.2 ⟨i, hl⟩
    split at hi
    · exact .inr ⟨a, ha, hi.symm⟩
    · exact .inl (hi ▸ ha)
theorem MRel.cons {φ : Phi} {k : C} {v : V} {es : List (C × V)} {ES : List MapEntry} (h : MRel lim φ ((k, v) :: es) ES) : ∃ e ES', ES = e :: ES' ∧ CRel lim φ k e.key ∧ VRel lim φ v e.val ∧ MRel lim φ es ES' := by
  cases ES with
  | nil => simp [MRel] at h
  | cons e ES' =>
    obtain ⟨e', h1, h2, h3⟩ := h.2 0 k v rfl
    simp at h1; subst h1
    exact ⟨_, _, rfl, h2, h3, by simpa using h.1, fun j k v hj => by simpa using h.2 (j + 1) k v (by simpa using hj)⟩
theorem MRel.nil {φ : Phi} {ES : List MapEntry} (h : MRel lim φ [] ES) : ES = [] := List.eq_nil_of_length_eq_zero h.1.symm
theorem MRel.mk_cons {φ : Phi} {k : C} {v : V} {e : MapEntry} {es : List (C × V)} {ES : List MapEntry} (hk : CRel lim φ k e.key) (hv : VRel lim φ v e.val) (h : MRel lim φ es ES) : MRel lim φ ((k, v) :: es) (e :: ES) :=
  ⟨by simp [h.1], fun j k' v' hj => by
    cases j with
    | zero => simp at hj; obtain ⟨rfl, rfl⟩ := hj; exact ⟨e, rfl, hk, hv⟩
    | succ j => simpa using h.2 j k' v' (by simpa using hj)⟩

theorem find_now {φ : Phi} {kk : KK} {d : TypeDesc} (hd : kk.fits d = true) {k : C} {kv : Value} (hk : CRel lim φ k kv) : ∀ (es : List (C × V)) (ES : List MapEntry) (i0 : Nat) {r : Option V}, MRel lim φ es ES → findK kk k es = some r →
    (r = none ∧ Instr.findNow d kv ES i0 = some none) ∨ ∃ v i x, r = some v ∧ Instr.findNow d kv ES i0 = some (some (i0 + i, x)) ∧ VRel lim φ v x
  | [], _, i0, r, hm, h => by
    rw [hm.nil]
    simp only [findK, Option.some.injEq] at h; subst h
    exact .inl ⟨rfl, rfl⟩
  | (a, u) :: es, _, i0, r, hm, h => by
    obtain ⟨e, ES, rfl, ha, hu, hm⟩ := hm.cons
    simp only [findK] at h
    obtain ⟨b, hb, h⟩ := Option.bind_eq_some_iff.1 h
    have hs := same_now hd hk ha hb
    cases b with
    | true =>
      simp at h; subst h
      exact .inr ⟨u, 0, e.val, rfl, by simp [Instr.findNow, hs], hu⟩
    | false =>
      simp at h
      rcases find_now hd hk es ES (i0 + 1) hm h with ⟨h1, h2⟩ | ⟨v, i, x, h1, h2, h3⟩
      · exact .inl ⟨h1, by simp [Instr.findNow, hs, h2]⟩
      · exact .inr ⟨v, i + 1, x, h1, by simp [Instr.findNow, hs, h2]; omega, h3⟩

theorem set_now {φ : Phi} {kk : KK} {d : TypeDesc} (hd : kk.fits d = true) {k : C} {kv : Value} (hk : CRel lim φ k kv) {v : V} {vv : Value} (hv : VRel lim φ v vv) (born : Nat) : ∀ (es : List (C × V)) (ES : List MapEntry) (i0 : Nat) {es' : List (C × V)}, MRel lim φ es ES → setK kk k v es = some es' →
    (Instr.findNow d kv ES i0 = some none ∧ MRel lim φ es' (ES ++ [{ key := kv, val := vv, born := born }])) ∨
    ∃ i x e, Instr.findNow d kv ES i0 = some (some (i0 + i, x)) ∧ ES[i]? = some e ∧ (∀ n, Instr.sameBits n e.key kv = true) ∧ MRel lim φ es' (ES.modify i fun e => { e with key := kv, val := vv })
  | [], _, i0, es', hm, h => by
    rw [hm.nil]
    simp only [setK, Option.some.injEq] at h; subst h
    exact .inl ⟨rfl, .mk_cons hk hv ⟨rfl, fun j k v hj => by simp at hj⟩⟩
  | (a, u) :: es, _, i0, es', hm, h => by
    obtain ⟨e, ES, rfl, ha, hu, hm⟩ := hm.cons
    simp only [setK] at h
    obtain ⟨b, hb, h⟩ := Option.bind_eq_some_iff.1 h
    have hs := same_now hd hk ha hb
    cases b with
    | true =>
      simp at h; subst h
      refine .inr ⟨0, e.val, e, by simp [Instr.findNow, hs], rfl, fun n => same_bits hk ha hb n, ?_⟩
      simp only [List.modify_zero_cons]
      refine .mk_cons ?_ hv hm
      rw [same_eq hb]; exact hk
    | false =>
      simp only [Bool.false_eq_true, if_false] at h
      obtain ⟨es2, h2, rfl⟩ := Option.map_eq_some_iff.1 h
      rcases set_now hd hk hv born es ES (i0 + 1) hm h2 with ⟨h1, h2⟩ | ⟨i, x, e2, h1, h2, h3, h4⟩
      · exact .inl ⟨by simp [Instr.findNow, hs, h1], .mk_cons ha hu h2⟩
      · refine .inr ⟨i + 1, x, e2, by simp [Instr.findNow, hs, h1]; omega, by simpa using h2, h3, ?_⟩
        simp only [List.modify_succ_cons]
        exact .mk_cons ha hu h4

theorem del_now {φ : Phi} {kk : KK} {d : TypeDesc} (hd : kk.fits d = true) {k : C} {kv : Value} (hk : CRel lim φ k kv) : ∀ (es : List (C × V)) (ES : List MapEntry) (i0 : Nat) {es' : List (C × V)}, MRel lim φ es ES → delK kk k es = some es' →
    (Instr.findNow d kv ES i0 = some none ∧ es' = es) ∨ ∃ i x, Instr.findNow d kv ES i0 = some (some (i0 + i, x)) ∧ i < ES.length ∧ MRel lim φ es' (ES.eraseIdx i)
  | [], _, i0, es', hm, h => by
    rw [hm.nil]
    simp only [delK, Option.some.injEq] at h; subst h
    exact .inl ⟨rfl, rfl⟩
  | (a, u) :: es, _, i0, es', hm, h => by
    obtain ⟨e, ES, rfl, ha, hu, hm⟩ := hm.cons
    simp only [delK] at h
    obtain ⟨b, hb, h⟩ := Option.bind_eq_some_iff.1 h
    have hs := same_now hd hk ha hb
    cases b with
    | true =>
      simp at h; subst h
      exact .inr ⟨0, e.val, by simp [Instr.findNow, hs], by simp, by simpa using hm⟩
    | false =>
      simp only [Bool.false_eq_true, if_false] at h
      obtain ⟨es2, h2, rfl⟩ := Option.map_eq_some_iff.1 h
      rcases del_now hd hk es ES (i0 + 1) hm h2 with ⟨h1, h2⟩ | ⟨i, x, h1, h2, h4⟩
      · exact .inl ⟨by simp [Instr.findNow, hs, h1], by rw [h2]⟩
      · exact .inr ⟨i + 1, x, by simp [Instr.findNow, hs, h1]; omega, by simpa using h2, by simpa using MRel.mk_cons ha hu h4⟩

theorem run_checkKey {kk : KK} {kT : TypeId} {d : TypeDesc} (hkT : P.underlying kT = some d) (hd : kk.fits d = true) (b : Bool) (n : Nat) (kv : Value) (w : World) : (Instr.checkKey b (n + 1) kT kv).run P w = .ok () w := by
  cases kk <;> cases d <;> simp [KK.fits] at hd <;> simp [Instr.checkKey, run_underlying hkT]
theorem run_findKey {kT : TypeId} {d : TypeDesc} (hkT : P.underlying kT = some d) {kv : Value} {ES : List MapEntry} {r : Option (Nat × Value)} (h : Instr.findNow d kv ES 0 = some r) (w : World) : (Instr.findKey kT kv ES).run P w = .ok r w := by
  simp [Instr.findKey, run_underlying hkT, h]

theorem HRel.getMap {φ : Phi} {H : Heap} {w : World} (h : HRel lim φ H w) {m : C} {mv : Value} (hm : CRel lim φ m mv) {es : List (C × V)} (hg : H.getMap m = some es) :
    (mv = .map none ∧ es = []) ∨ ∃ p ES clock, mv = .map (some p) ∧ w.heap[p]? = some (.map ES clock) ∧ MRel lim φ es ES.toList := by
  cases hm <;> simp only [Heap.getMap, reduceCtorEq, Option.some.injEq] at hg
  · exact .inl ⟨rfl, hg.symm⟩
  · split at hg
    · rename_i hh
      cases hg
      rename_i i p hp _
      obtain ⟨q, ES, clock, h1, h2, h3, h4⟩ := h.maps _ _ hh
      rw [hp] at h1; cases h1
      exact .inr ⟨_, ES, clock, rfl, h2, h3⟩
    · cases hg

theorem run_getObj_map {w : World} {p : Nat} {ES : Array MapEntry} {clock : Nat} (h : w.heap[p]? = some (.map ES clock)) : (getObj p).run P w = .ok (.map ES clock) w := by
  simp [getObj, Sem.run, h]

theorem HRel.look {φ : Phi} {H : Heap} {w : World} (h : HRel lim φ H w) {kk : KK} {d : TypeDesc} {m k : C} {mv kv : Value} (hm : CRel lim φ m mv) (hk : CRel lim φ k kv) {es : List (C × V)} (hg : H.getMap m = some es) {r : Option V} (hf : findK kk k es = some r)
    {z : V} {zv : Value} (hz : VRel lim φ z zv) (mT kT eT : TypeId) (hmT : P.underlying mT = some (.map kT eT)) (hkT : P.underlying kT = some d) (hd : kk.fits d = true) {ti : TypeInfo} (hi : P.info? eT = some ti) (hzv : ti.zero = some zv) (ok : Bool) :
    ∃ rv, (Instr.lookup mT mv kv ok).run P w = .ok rv w ∧ VRel lim φ (if ok then .tuple [r.getD z, .c (.bool r.isSome)] else r.getD z) rv := by
  have key : ∀ ES : List MapEntry, MRel lim φ es ES → ∃ r' x, (Instr.findKey kT kv ES).run P w = .ok r' w ∧ VRel lim φ (r.getD z) x ∧ ((r' = none ∧ r = none ∧ x = zv) ∨ ∃ i, r' = some (i, x) ∧ r.isSome = true) := by
    intro ES hES
    rcases find_now hd hk es ES 0 hES hf with ⟨h1, h2⟩ | ⟨v, i, x, h1, h2, h3⟩
    · exact ⟨none, zv, run_findKey hkT h2 w, by rw [h1]; exact hz, .inl ⟨rfl, h1, rfl⟩⟩
    · exact ⟨_, x, run_findKey hkT h2 w, by rw [h1]; exact h3, .inr ⟨_, rfl, by rw [h1]; rfl⟩⟩
  rcases h.getMap hm hg with ⟨rfl, rfl⟩ | ⟨p, ES, clock, rfl, hp, hES⟩
  · obtain ⟨r', x, h1, h2, h3⟩ := key [] ⟨rfl, fun j k v hj => by simp at hj⟩
    refine ⟨if ok then .tuple #[x, .bool r.isSome] else x, ?_, ?_⟩
    · rcases h3 with ⟨rfl, rfl, rfl⟩ | ⟨i, rfl, hr⟩
      · simp [Instr.lookup, run_underlying hmT, run_checkKey hkT hd, h1, run_zero hi hzv]
      · simp [Instr.lookup, run_underlying hmT, run_checkKey hkT hd, h1, hr]
    · cases ok
      · simpa using h2
      · simp only [if_true]; exact .tuple (.cons h2 (.cons (.c (.bool _)) .nil))
  · obtain ⟨r', x, h1, h2, h3⟩ := key ES.toList hES
    refine ⟨if ok then .tuple #[x, .bool r.isSome] else x, ?_, ?_⟩
    · rcases h3 with ⟨rfl, rfl, rfl⟩ | ⟨i, rfl, hr⟩
      · simp [Instr.lookup, run_underlying hmT, run_getObj_map hp, run_checkKey hkT hd, h1, run_zero hi hzv]
      · simp [Instr.lookup, run_underlying hmT, run_getObj_map hp, run_checkKey hkT hd, h1, hr]
    · cases ok
      · simpa using h2
      · simp only [if_true]; exact .tuple (.cons h2 (.cons (.c (.bool _)) .nil))

/-- a map is written -/
theorem HRel.putMap {φ : Phi} {H : Heap} {w : World} {i : Nat} {es es' : List (C × V)} (h : HRel lim φ H w) (hg : H.get i = some (.map es)) (hl : lim ≤ i) {p : Pl} (hp : φ i = some p) {ES' : Array MapEntry} {clock' : Nat}
    (hm : MRel lim φ es' ES'.toList) (hb : ∀ e ∈ ES'.toList, e.born < clock') :
    (setObj p.blk (.map ES' clock')).run P w = .ok () { w with heap := w.heap.setIfInBounds p.blk (.map ES' clock') } ∧
    HRel lim φ (H.put i (.map es')) { w with heap := w.heap.setIfInBounds p.blk (.map ES' clock') } ∧ Ext lim φ w φ { w with heap := w.heap.setIfInBounds p.blk (.map ES' clock') } := by
  obtain ⟨p', ES, clock, h1, h2, h3, h4⟩ := h.maps i _ hg
  rw [hp] at h1; cases h1
  have hlt := h.bound i p hp
  have hnew : ({ w with heap := w.heap.setIfInBounds p.blk (.map ES' clock') } : World).heap[p.blk]? = some (.map ES' clock') := by
    simp only [Array.getElem?_setIfInBounds, if_true]; simp [hlt]
  have hoth : ∀ b, b ≠ p.blk → ({ w with heap := w.heap.setIfInBounds p.blk (.map ES' clock') } : World).heap[b]? = w.heap[b]? := fun b hb => by
    simp only [Array.getElem?_setIfInBounds]; rw [if_neg (Ne.symm hb)]
  refine ⟨by simp [setObj, Sem.run, h2], ⟨h.low, h.dom, fun j q hq => by simpa using h.bound j q hq, ?_, ?_, ?_⟩, ⟨fun _ _ hq => hq, fun _ _ hq => .inl hq, by simp, ?_, rfl, rfl, rfl, fun a => ?_⟩⟩
  rotate_left 4
  · by_cases e : a.block = p.blk
    · simp only [World.frozen?, e, hnew, h2]
    · simp only [World.frozen?, hoth _ e]
  · intro j sz' c' hj
    by_cases e : j = i
    · subst e; simp [Heap.put] at hj
    · simp only [Heap.put, e, if_false] at hj
      obtain ⟨q, B, el', fz', g1, g2, g3, g4, g5, g6⟩ := h.cells j _ _ hj
      have hne : q.blk ≠ p.blk := fun eb => e (h.inj j i q p hl (by rw [hj]; simp) (by rw [hg]; simp) g1 hp eb)
      exact ⟨q, B, el', fz', g1, by rw [hoth _ hne]; exact g2, g3, g4, g5, g6⟩
  · intro j es2 hj
    by_cases e : j = i
    · subst e
      simp only [Heap.put, if_true, Option.some.injEq, Obj.map.injEq] at hj
      subst hj
      exact ⟨p, ES', clock', hp, hnew, hm, hb⟩
    · simp only [Heap.put, e, if_false] at hj
      obtain ⟨q, ES2, clock2, g1, g2, g3⟩ := h.maps j _ hj
      have hne : q.blk ≠ p.blk := fun eb => e (h.inj j i q p hl (by rw [hj]; simp) (by rw [hg]; simp) g1 hp eb)
      exact ⟨q, ES2, clock2, g1, by rw [hoth _ hne]; exact g2, g3⟩
  · intro a b q r hlb ha hb' hq hr e
    refine h.inj a b q r hlb ?_ ?_ hq hr e
    · by_cases ea : a = i
      · rw [ea, hg]; simp
      · simpa [Heap.put, ea] using ha
    · by_cases eb : b = i
      · rw [eb, hg]; simp
      · simpa [Heap.put, eb] using hb'
  · intro b hb' hn
    exact hoth b fun e => hn i p hl hp e.symm

theorem HRel.mset {φ : Phi} {H H' : Heap} {w : World} (h : HRel lim φ H w) {kk : KK} {d : TypeDesc} {m k : C} {v : V} {mv kv vv : Value} (hm : CRel lim φ m mv) (hk : CRel lim φ k kv) (hv : VRel lim φ v vv) (hs : H.mset lim kk m k v = some H')
    (mT kT eT : TypeId) (hmT : P.underlying mT = some (.map kT eT)) (hkT : P.underlying kT = some d) (hd : kk.fits d = true) :
    ∃ w', (Instr.mapUpdate mT mv kv vv).run P w = .ok () w' ∧ HRel lim φ H' w' ∧ Ext lim φ w φ w' := by
  cases hm <;> simp only [Heap.mset, reduceCtorEq] at hs
  rename_i i p hp
  split at hs
  · rename_i es hg
    split at hs
    · rename_i hl
      obtain ⟨es', hes, rfl⟩ := Option.map_eq_some_iff.1 hs
      obtain ⟨q, ES, clock, h1, h2, h3, h4⟩ := h.maps _ _ hg
      rw [hp] at h1; cases h1
      rcases set_now hd hk hv clock es ES.toList 0 h3 hes with ⟨f1, f2⟩ | ⟨j, x, e, f1, f2, f3, f4⟩
      · obtain ⟨g1, g2, g3⟩ := h.putMap (P := P) (es' := es') (ES' := ES.push { key := kv, val := vv, born := clock }) (clock' := clock + 1) hg hl hp (by simpa using f2)
          (fun e he => by
            rw [Array.toList_push, List.mem_append] at he
            rcases he with he | he
            · have := h4 e he; omega
            · simp only [List.mem_cons, List.not_mem_nil, or_false] at he; subst he; exact Nat.lt_succ_self _)
        exact ⟨_, by simp [Instr.mapUpdate, run_underlying hmT, run_getObj_map h2, run_checkKey hkT hd, run_findKey hkT f1, g1], g2, g3⟩
      · obtain ⟨g1, g2, g3⟩ := h.putMap (P := P) (es' := es') (ES' := ES.modify j fun e => { e with key := kv, val := vv }) (clock' := clock) hg hl hp (by simpa using f4)
          (fun e he => by
            simp only [Array.toList_modify] at he
            rcases mem_modify he with he | ⟨a, ha, rfl⟩
            · exact h4 e he
            · exact h4 a ha)
        refine ⟨_, ?_, g2, g3⟩
        have f2' : ES[j]? = some e := by simpa using f2
        simp [Instr.mapUpdate, run_underlying hmT, run_getObj_map h2, run_checkKey hkT hd, run_findKey hkT f1, f2', Instr.keyThatStays, f3, g1]
    · cases hs
  · cases hs

theorem HRel.mdel {φ : Phi} {H H' : Heap} {w : World} (h : HRel lim φ H w) {kk : KK} {d : TypeDesc} {m k : C} {mv kv : Value} (hm : CRel lim φ m mv) (hk : CRel lim φ k kv) (hs : H.mdel lim kk m k = some H')
    (ts : Array TypeId) (ty mT kT eT : TypeId) (h0 : ts[0]? = some mT) (hmT : P.underlying mT = some (.map kT eT)) (hkT : P.underlying kT = some d) (hd : kk.fits d = true) :
    ∃ w', (Builtin.delete_ ts ty #[mv, kv]).run P w = .ok (.tuple #[]) w' ∧ HRel lim φ H' w' ∧ Ext lim φ w φ w' := by
  cases hm <;> simp only [Heap.mdel, reduceCtorEq] at hs
  · cases hs
    exact ⟨w, by simp [Builtin.delete_, h0, run_underlying hmT, run_checkKey hkT hd], h, .refl _ _⟩
  rename_i i p hp
  split at hs
  · rename_i es hg
    split at hs
    · rename_i hl
      obtain ⟨es', hes, rfl⟩ := Option.map_eq_some_iff.1 hs
      obtain ⟨q, ES, clock, h1, h2, h3, h4⟩ := h.maps _ _ hg
      rw [hp] at h1; cases h1
      rcases del_now hd hk es ES.toList 0 h3 hes with ⟨f1, rfl⟩ | ⟨j, x, f1, f2, f4⟩
      · obtain ⟨g1, g2, g3⟩ := h.putMap (P := P) (es' := es') (ES' := ES) (clock' := clock) hg hl hp h3 h4
        exact ⟨_, by simp [Builtin.delete_, h0, run_underlying hmT, run_getObj_map h2, run_checkKey hkT hd, run_findKey hkT f1, g1], g2, g3⟩
      · have herase : (ES.eraseIdxIfInBounds j).toList = ES.toList.eraseIdx j := by
          have f2' : j < ES.size := by simpa using f2
          simp [Array.eraseIdxIfInBounds, f2']
        obtain ⟨g1, g2, g3⟩ := h.putMap (P := P) (es' := es') (ES' := ES.eraseIdxIfInBounds j) (clock' := clock) hg hl hp (by rw [herase]; exact f4)
          (fun e he => h4 e (by rw [herase] at he; exact List.mem_of_mem_eraseIdx he))
        exact ⟨_, by simp [Builtin.delete_, h0, run_underlying hmT, run_getObj_map h2, run_checkKey hkT hd, run_findKey hkT f1, g1], g2, g3⟩
    · cases hs
  · cases hs
end Go.Proofs.Ytnnjklkfcleleaa.Vm
