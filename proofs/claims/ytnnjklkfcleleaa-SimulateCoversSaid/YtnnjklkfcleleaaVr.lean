/-
  WHAT COMES IN: the arguments of a law as objects of the machine.
-/
import Derived.Test.YtnnjklkfcleleaaVq
import Derived.ChangeArms
import Derived.DataReads
namespace Go.Proofs.Ytnnjklkfcleleaa.Vm
open Go
set_option linter.unusedVariables false
set_option linter.unusedSimpArgs false

mutual
theorem CRel.up {lim lim' : Nat} (hl : lim ≤ lim') {φ : Phi} : ∀ {x : C} {v : Value}, CRel lim φ x v → CRel lim' φ x v
  | _, _, .junk h => .junk h
  | _, _, .bool b => .bool b
  | _, _, .int k n => .int k n
  | _, _, .str s => .str s
  | _, _, .nilPtr => .nilPtr
  | _, _, .ptr h => .ptr h
  | _, _, .nilSlice => .nilSlice
  | _, _, .slice h a b c => .slice h a b (fun hi => c (Nat.le_trans hl hi))
  | _, _, .slice0 h => .slice0 (Nat.lt_of_lt_of_le h hl)
  | _, _, .nilMap => .nilMap
  | _, _, .map h => .map h
  | _, _, .func a b => .func (CsRel.up hl a) (CsRel.up hl b)
  | _, _, .nilFunc => .nilFunc
  | _, _, .ifaceC h => .ifaceC (CRel.up hl h)
  | _, _, .ifaceA h => .ifaceA (CsRel.up hl h)
  | _, _, .nilIface => .nilIface
theorem CsRel.up {lim lim' : Nat} (hl : lim ≤ lim') {φ : Phi} : ∀ {x : List C} {v : List Value}, CsRel lim φ x v → CsRel lim' φ x v
  | _, _, .nil => .nil
  | _, _, .cons a b => .cons (CRel.up hl a) (CsRel.up hl b)
end
theorem HRel.up {lim lim' : Nat} (hl : lim ≤ lim') {φ : Phi} {H : Heap} {w : World} (h : HRel lim φ H w) (hn : lim' ≤ H.next) : HRel lim' φ H w := by
  refine ⟨hn, h.dom, h.bound, fun i sz c hg => ?_, fun i es hg => ?_, fun i j p q hj => h.inj i j p q (Nat.le_trans hl hj)⟩
  · obtain ⟨p, A, el, fz, h1, h2, h3, h4, h5, h6⟩ := h.cells i sz c hg
    exact ⟨p, A, el, fz, h1, h2, h3, h4, fun hi => h5 (Nat.le_trans hl hi), fun j x hj => let ⟨v, hv, hr⟩ := h6 j x hj; ⟨v, hv, hr.up hl⟩⟩
  · obtain ⟨p, ES, clock, h1, h2, h3, h4⟩ := h.maps i es hg
    refine ⟨p, ES, clock, h1, h2, ⟨h3.1, fun j k v hj => ?_⟩, h4⟩
    obtain ⟨e, g1, g2, g3⟩ := h3.2 j k v hj
    refine ⟨e, g1, g2.up hl, ?_⟩
    exact VRel.upp hl g3
where
  VRel.upp {lim lim' : Nat} (hl : lim ≤ lim') {φ : Phi} : ∀ {x : V} {v : Value}, VRel lim φ x v → VRel lim' φ x v
  | _, _, .c h => .c (h.up hl)
  | _, _, .agg h => .agg (h.up hl)
  | _, _, .tuple h => .tuple (VsRel.upp hl h)
  VsRel.upp {lim lim' : Nat} (hl : lim ≤ lim') {φ : Phi} : ∀ {x : List V} {v : List Value}, VsRel lim φ x v → VsRel lim' φ x v
  | _, _, .nil => .nil
  | _, _, .cons a b => .cons (VRel.upp hl a) (VsRel.upp hl b)

/-- a row of a block becomes an object -/
theorem HRel.take {φ : Phi} {H : Heap} {w : World} (h : HRel H.next φ H w) {b off : Nat} {A : Array Value} {el : TypeId} {fz : Nat × Nat} (hb : w.heap[b]? = some (.cells A el fz)) (sz : Nat) {c : List C} {vs : List Value}
    (hc : CsRel H.next φ c vs) (hv : ∀ j, j < vs.length → A[off + j]? = vs[j]?) (hn : off + c.length ≤ A.size) :
    HRel (H.next + 1) (φ.add H.next ⟨b, off, A.size, sz⟩) (H.alloc (.cells sz c)) w ∧ (∀ i p, φ i = some p → φ.add H.next ⟨b, off, A.size, sz⟩ i = some p) := by
  have hmono := Phi.add_mono (φ := φ) ⟨b, off, A.size, sz⟩ (h.dom H.next (Nat.le_refl _))
  have h' := h
  refine ⟨⟨Nat.le_refl _, ?_, ?_, ?_, ?_, ?_⟩, hmono⟩
  · intro i hi
    have hi : H.next + 1 ≤ i := hi
    simp only [Phi.add]; rw [if_neg (by omega)]; exact h.dom i (by omega)
  · intro i p hp
    by_cases e : i = H.next
    · simp only [Phi.add, e, if_true, Option.some.injEq] at hp; subst hp; exact (Array.getElem?_eq_some_iff.1 hb).1
    · simp only [Phi.add, e, if_false] at hp; exact h.bound i p hp
  · intro i sz' c' hg
    by_cases e : i = H.next
    · subst e
      simp only [Heap.alloc, if_true, Option.some.injEq, Obj.cells.injEq] at hg
      obtain ⟨rfl, rfl⟩ := hg
      refine ⟨_, A, el, fz, Phi.add_same _ _ _, hb, rfl, hn, fun hi => by omega, fun j x hj => ?_⟩
      obtain ⟨v, h1, h2⟩ := hc.get hj
      exact ⟨v, by rw [hv j (List.getElem?_eq_some_iff.1 h1).1]; exact h1, (h2.mono hmono).up (Nat.le_succ _)⟩
    · simp only [Heap.alloc, e, if_false] at hg
      obtain ⟨p, A', el', fz', h1, h2, h3, h4, h5, h6⟩ := h.cells i sz' c' hg
      exact ⟨p, A', el', fz', hmono _ _ h1, h2, h3, h4, fun hi => h5 (by omega), fun j x hj => by obtain ⟨v, hv, hx⟩ := h6 j x hj; exact ⟨v, hv, (hx.mono hmono).up (Nat.le_succ _)⟩⟩
  · intro i es hg
    by_cases e : i = H.next
    · subst e; simp only [Heap.alloc, if_true, Option.some.injEq] at hg; cases hg
    · simp only [Heap.alloc, e, if_false] at hg
      obtain ⟨p, ES, clock, h1, h2, h3, h4⟩ := (h.up (Nat.le_refl _) (Nat.le_refl _)).maps i es hg
      refine ⟨p, ES, clock, hmono _ _ h1, h2, ⟨h3.1, fun j k v hj => ?_⟩, h4⟩
      obtain ⟨e, g1, g2, g3⟩ := (h3.mono hmono).2 j k v hj
      exact ⟨e, g1, g2.up (Nat.le_succ _), HRel.up.VRel.upp (Nat.le_succ _) g3⟩
  · intro i j p q hlj hi hj hp hq e
    have hn := h.dom j (by omega)
    simp only [Phi.add] at hq
    rw [if_neg (by omega), hn] at hq; cases hq

/-! ### flat rows -/
inductive Sc where
  | int (k : IntKind)
  | bool
  | str
def sc1 (P : Program) (t : TypeId) : Option Sc := if P.cellsOf t = 1 then (match P.underlying t with
  | some (.int k) => some (.int k)
  | some .bool => some .bool
  | some .string => some .str
  | _ => none) else none
def scFs (P : Program) : Nat → List Field → Option (List Sc)
  | _, [] => some []
  | k, f :: fs => if f.offset = k then (sc1 P f.type).bind fun s => (scFs P (k + 1) fs).bind fun ss => some (s :: ss) else none
def scT (P : Program) (t : TypeId) : Option (List Sc) := match P.underlying t with
  | some (.struct fs) => (scFs P 0 fs.toList).bind fun ss => if P.cellsOf t = ss.length then some ss else none
  | _ => (sc1 P t).map fun s => [s]
def scC : Sc → C → Prop
  | .int k, c => ∃ n, c = .int k n ∧ (Lit.int k n).wf = true
  | .bool, c => ∃ b, c = .bool b
  | .str, c => ∃ s, c = .str s ∧ s.size ≤ maxLen
def Typed : List Sc → List C → Prop
  | [], cs => cs = []
  | s :: ss, cs => ∃ c r, cs = c :: r ∧ scC s c ∧ Typed ss r
theorem Typed.length : ∀ {ss : List Sc} {cs : List C}, Typed ss cs → cs.length = ss.length
  | [], cs, h => by simp only [Typed] at h; subst h; rfl
  | s :: ss, cs, h => by obtain ⟨c, r, rfl, _, h2⟩ := h; simp [h2.length]

section
variable {D : Type} {enc : TypeId × Value → D} {P : Program} {w : World} {base : Nat} {spare : Nat → Bool} {held : Bool} {fuel : Nat} {t : TypeId} {cs : List Value} {x : DataW D × List MemPlace}
theorem trod_sc1 {s : Sc} (hs : sc1 P t = some s) (h : DataW.trod enc P w base spare held fuel t cs = some x) : ∃ v c, cs = [v] ∧ scC s c ∧ ∀ lim φ, CRel lim φ c v := by
  unfold sc1 at hs
  split at hs
  · split at hs
    · rename_i k hu; cases hs
      obtain ⟨n, rfl, _, hw⟩ := DataW.trod_int hu h
      exact ⟨_, .int k n, rfl, ⟨n, rfl, hw⟩, fun _ _ => .int k n⟩
    · rename_i hu; cases hs
      obtain ⟨b, rfl, _⟩ := DataW.trod_bool hu h
      exact ⟨_, .bool b, rfl, ⟨b, rfl⟩, fun _ _ => .bool b⟩
    · rename_i hu; cases hs
      obtain ⟨s, rfl, _, hl⟩ := DataW.trod_string hu h
      exact ⟨_, .str s, rfl, ⟨s, rfl, hl⟩, fun _ _ => .str s⟩
    · cases hs
  · cases hs
theorem typed_of : ∀ (ss : List Sc) (cs : List Value), cs.length = ss.length → (∀ (i : Nat) s, ss[i]? = some s → ∃ v c, cs[i]? = some v ∧ scC s c ∧ ∀ lim φ, CRel lim φ c v) → ∃ row, Typed ss row ∧ ∀ lim φ, CsRel lim φ row cs
  | [], [], _, _ => ⟨[], rfl, fun _ _ => .nil⟩
  | s :: ss, v :: cs, hl, h => by
    obtain ⟨v', c, h1, h2, h3⟩ := h 0 s rfl
    simp only [List.getElem?_cons_zero, Option.some.injEq] at h1; subst h1
    obtain ⟨row, h4, h5⟩ := typed_of ss cs (by simpa using hl) (fun i s hi => h (i + 1) s (by simpa using hi))
    exact ⟨c :: row, ⟨c, row, rfl, h2, h4⟩, fun lim φ => .cons (h3 lim φ) (h5 lim φ)⟩
theorem scFs_get : ∀ {fs : List Field} {k : Nat} {ss : List Sc}, scFs P k fs = some ss → fs.length = ss.length ∧ ∀ (i : Nat) f, fs[i]? = some f → f.offset = k + i ∧ ∃ s, ss[i]? = some s ∧ sc1 P f.type = some s
  | [], k, ss, h => by simp only [scFs] at h; cases h; exact ⟨rfl, fun i f hf => by simp at hf⟩
  | f :: fs, k, ss, h => by
    simp only [scFs] at h
    split at h
    · rename_i ho
      obtain ⟨s, hs, h⟩ := Option.bind_eq_some_iff.1 h
      obtain ⟨ss', hss, h⟩ := Option.bind_eq_some_iff.1 h
      cases h
      obtain ⟨h1, h2⟩ := scFs_get hss
      refine ⟨by simp [h1], fun i g hg => ?_⟩
      cases i with
      | zero => simp only [List.getElem?_cons_zero, Option.some.injEq] at hg; subst hg; exact ⟨ho, s, rfl, hs⟩
      | succ i =>
        obtain ⟨h3, h4⟩ := h2 i g (by simpa using hg)
        exact ⟨by omega, by simpa using h4⟩
    · cases h
theorem sc1_cells {s : Sc} (h : sc1 P t = some s) : P.cellsOf t = 1 := by
  unfold sc1 at h
  split at h
  · assumption
  · cases h
theorem trod_sc {ss : List Sc} (hs : scT P t = some ss) (h : DataW.trod enc P w base spare held fuel t cs = some x) : ∃ row, Typed ss row ∧ (∀ lim φ, CsRel lim φ row cs) ∧ P.cellsOf t = ss.length := by
  unfold scT at hs
  split at hs
  · rename_i fs hu
    obtain ⟨ss', hss, hs⟩ := Option.bind_eq_some_iff.1 hs
    split at hs
    · rename_i hcl
      cases hs
      obtain ⟨xs, n, _, _, hl, hlen, hf⟩ := DataW.trod_struct hu h
      obtain ⟨hfl, hfs⟩ := scFs_get hss
      obtain ⟨row, h1, h2⟩ := typed_of ss cs (by rw [hl, hcl]) (fun i s hi => by
        have hlt : i < fs.toList.length := by rw [hfl]; exact (List.getElem?_eq_some_iff.1 hi).1
        have hlt2 : i < fs.size := by simpa using hlt
        obtain ⟨ho, s', hs', hsc⟩ := hfs i _ (List.getElem?_eq_getElem hlt)
        rw [hi] at hs'; cases hs'
        have hxi : ∃ y, xs[i]? = some y := ⟨xs[i]'(by omega), List.getElem?_eq_getElem _⟩
        obtain ⟨y, hy⟩ := hxi
        have := hf i fs.toList[i] (by rw [← Array.getElem?_toList]; exact List.getElem?_eq_getElem hlt)
        rw [hy] at this
        rw [sc1_cells hsc, ho, Nat.zero_add] at this
        obtain ⟨v, c, e, h3, h4⟩ := trod_sc1 hsc this
        refine ⟨v, c, ?_, h3, h4⟩
        have e2 : ((cs.drop i).take 1)[0]? = some v := by rw [e]; rfl
        simpa using e2)
      exact ⟨row, h1, h2, hcl⟩
    · cases hs
  · obtain ⟨s, hs1, rfl⟩ := Option.map_eq_some_iff.1 hs
    obtain ⟨v, c, rfl, h1, h2⟩ := trod_sc1 hs1 h
    exact ⟨[c], ⟨c, [], rfl, h1, rfl⟩, fun lim φ => .cons (h2 lim φ) .nil, by simpa using sc1_cells hs1⟩

/-- a slice of flat rows that comes in -/
theorem slice_in {e : TypeId} {ss : List Sc} {v : Value} (ht : P.underlying t = some (.slice e)) (hs : scT P e = some ss) (hpos : 0 < ss.length) (h : DataW.trod enc P w base (fun _ => true) held fuel t [v] = some x) {b0 : Nat} (hok : Cell.okWide P w .any b0 t v)
    {φ : Phi} {H : Heap} (hH : HRel H.next φ H w) :
    ∃ H' φ' c rows, HRel H'.next φ' H' w ∧ (∀ i p, φ i = some p → φ' i = some p) ∧ Grow H H' ∧ CRel H'.next φ' c v ∧ Sl H' c ss.length rows ∧ (∀ r ∈ rows, Typed ss r) ∧ rows.length ≤ maxLen := by
  rcases DataW.trod_slice ht h with ⟨h0, _⟩ | ⟨a, len, cap, elems, rest, n, _, hv, _, hb, hl, hm, hlen, hel, hsp, _⟩
  · cases h0
    exact ⟨H, φ, .nilSlice, [], hH, fun _ _ h => h, .refl _, .nilSlice, Sl.nil H _, fun _ h => (by cases h), Nat.zero_le _⟩
  · cases hv
    have hhas : w.has P .any b0 a e cap := by
      unfold Cell.okWide at hok
      rw [ht] at hok
      simp only [Cell.ok, ht] at hok
      exact hok.2.2
    obtain ⟨_, hspot, row, cells, hshape, _⟩ := hhas
    obtain ⟨ab, ao, as⟩ := a
    simp only at hspot hshape hb
    subst hspot
    obtain ⟨A, el, fz, hA⟩ : ∃ A el fz, w.heap[ab]? = some (.cells A el fz) := by
      unfold World.shape? at hshape
      split at hshape
      · rename_i c el fz hc; exact ⟨c, el, fz, hc⟩
      · cases hshape
    have hcell : ∀ j, w.cell? ((⟨ab, ao, none⟩ : Addr).add j) = A[ao + j]? := fun j => by
      unfold Addr.add
      split
      · rename_i h0; subst h0; simp [World.cell?, hA]
      · simp [World.cell?, hA]
    -- each element
    have each : ∀ i, i < len → ∃ (r : List C) (vs : List Value), Typed ss r ∧ (∀ lim φ, CsRel lim φ r vs) ∧ vs.length = ss.length ∧ ∀ k, k < ss.length → A[ao + (i * ss.length + k)]? = vs[k]? := by
      intro i hi
      obtain ⟨y, hy⟩ : ∃ y, elems[i]? = some y := ⟨elems[i]'(by omega), List.getElem?_eq_getElem _⟩
      have := hel i hi
      rw [hy] at this
      obtain ⟨vs, hvs, htr⟩ := Option.bind_eq_some_iff.1 this
      obtain ⟨r, h1, h2, h3⟩ := trod_sc hs htr
      obtain ⟨_, g1, g2⟩ := World.cells?_some hvs
      refine ⟨r, vs, h1, h2, by rw [g1, h3], fun k hk => ?_⟩
      rw [← g2 k (by omega), h3]
      rw [show ((⟨ab, ao, none⟩ : Addr).add (i * ss.length)).add k = (⟨ab, ao, none⟩ : Addr).add (i * ss.length + k) from ?_]
      · rw [hcell]
      · unfold Addr.add
        by_cases e1 : i * ss.length = 0 <;> by_cases e2 : k = 0 <;> simp [e1, e2, Nat.add_assoc]
    have all : ∀ m, m ≤ len → ∃ (rows : List (List C)) (vs : List Value), rows.length = m ∧ (∀ r ∈ rows, Typed ss r) ∧ (∀ lim φ, CsRel lim φ rows.flatten vs) ∧ vs.length = m * ss.length ∧ ∀ k, k < vs.length → A[ao + k]? = vs[k]? := by
      intro m
      induction m with
      | zero => intro _; exact ⟨[], [], rfl, fun _ h => (by cases h), fun _ _ => .nil, by simp, fun k hk => by simp at hk⟩
      | succ m ih =>
        intro hm'
        obtain ⟨rows, vs, g1, g2, g3, g4, g5⟩ := ih (by omega)
        obtain ⟨r, us, k1, k2, k3, k4⟩ := each m (by omega)
        refine ⟨rows ++ [r], vs ++ us, by simp [g1], fun z hz => ?_, fun lim φ => ?_, by simp [g4, k3, Nat.add_mul], fun k hk => ?_⟩
        · rcases List.mem_append.1 hz with hz | hz
          · exact g2 z hz
          · simp only [List.mem_singleton] at hz; subst hz; exact k1
        · rw [List.flatten_append]; simp only [List.flatten_cons, List.flatten_nil, List.append_nil]; exact (g3 lim φ).append (k2 lim φ)
        · by_cases hlt : k < vs.length
          · rw [List.getElem?_append_left hlt]; exact g5 k hlt
          · rw [List.getElem?_append_right (by omega)]
            rw [List.length_append] at hk
            have := k4 (k - vs.length) (by omega)
            rw [← this, g4]; congr 1; rw [← g4]; omega
    obtain ⟨rows, vs, g1, g2, g3, g4, g5⟩ := all len (Nat.le_refl _)
    have hrl : ∀ r ∈ rows, r.length = ss.length := fun r hr => (g2 r hr).length
    have hfl : rows.flatten.length = len * ss.length := by rw [flat_len' hrl, g1]
    -- the place
    have hoff : ao + rows.flatten.length ≤ A.size ∨ cap = 0 := by
      by_cases hc0 : cap = 0
      · exact .inr hc0
      · left
        by_cases hl0 : len = 0
        · subst hl0
          have hr0 := (hsp rfl).1
          obtain ⟨y, hy⟩ : ∃ y, rest[0]? = some y := ⟨rest[0]'(by omega), List.getElem?_eq_getElem _⟩
          have := (hsp rfl).2 0 (by omega)
          rw [hy] at this
          obtain ⟨us, hus, htr⟩ := Option.bind_eq_some_iff.1 this
          obtain ⟨r, h1, h2, h3⟩ := trod_sc hs htr
          obtain ⟨_, q1, q2⟩ := World.cells?_some hus
          have q3 := q2 0 (by omega)
          simp only [Nat.zero_add, Nat.zero_mul] at q3
          have q4 : ((⟨ab, ao, none⟩ : Addr).add 0).add 0 = (⟨ab, ao, none⟩ : Addr).add 0 := by simp [Addr.add]
          rw [q4, hcell] at q3
          have q5 : us[0]? = some (us[0]'(by omega)) := List.getElem?_eq_getElem _
          rw [q5] at q3
          have := (Array.getElem?_eq_some_iff.1 q3).1
          rw [hfl]; simp; omega
        · have hpos' : 0 < len * ss.length := Nat.mul_pos (by omega) hpos
          have q := g5 (len * ss.length - 1) (by omega)
          have q5 : vs[len * ss.length - 1]? = some (vs[len * ss.length - 1]'(by omega)) := List.getElem?_eq_getElem _
          rw [q5] at q
          have := (Array.getElem?_eq_some_iff.1 q).1
          rw [hfl]; omega
    rcases hoff with hoff | hc0
    · obtain ⟨k1, k2⟩ := hH.take (off := ao) hA ss.length (g3 H.next φ) g5 hoff
      refine ⟨_, _, .slice H.next 0 len, rows, k1, k2, .alloc _ _, ?_, ⟨hrl, .inr ⟨H.next, 0, ss.length, rows.flatten, by rw [g1], by simp, alloc_new _ _, by rw [hfl, g1]; simp, ?_⟩⟩, g2, by rw [g1]; omega⟩
      · exact .slice (p := ⟨ab, ao, A.size, ss.length⟩) (Phi.add_same _ _ _) hl (.inr rfl) (fun hi => by simp only [alloc_next] at hi; omega)
      · rw [List.drop_zero, List.take_of_length_le (by rw [hfl, g1]; exact Nat.le_refl _)]
    · subst hc0
      have hl0 : len = 0 := by omega
      subst hl0
      have hr0 := List.eq_nil_of_length_eq_zero g1
      subst hr0
      obtain ⟨k1, k2⟩ := hH.take (off := 0) hA ss.length (c := []) (vs := []) .nil (fun j hj => by simp at hj) (by simp)
      refine ⟨_, _, .slice H.next 0 0, [], k1, k2, .alloc _ _, ?_, ⟨hrl, .inr ⟨H.next, 0, ss.length, [], rfl, by simp, alloc_new _ _, by simp, by simp⟩⟩, g2, Nat.zero_le _⟩
      exact .slice (p := ⟨ab, 0, A.size, ss.length⟩) (Phi.add_same _ _ _) (Nat.le_refl _) (.inl rfl) (fun _ => .inl rfl)
end
end Go.Proofs.Ytnnjklkfcleleaa.Vm
