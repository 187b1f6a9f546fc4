/-
  WHAT COMES IN: slices of rows that hold slices.
-/
import Derived.Test.YtnnjklkfcleleaaVs
namespace Go.Proofs.Ytnnjklkfcleleaa.Vm
open Go
set_option linter.unusedVariables false
set_option linter.unusedSimpArgs false

inductive NT where
  | int (k : IntKind)
  | bool
  | str
  | sl (row : List NT)
def fsN (P : Program) (one : TypeId → Option NT) : Nat → List Field → Option (List NT)
  | _, [] => some []
  | k, f :: fs => if f.offset = k ∧ P.cellsOf f.type = 1 then (one f.type).bind fun s => (fsN P one (k + 1) fs).bind fun ss => some (s :: ss) else none
def rowOfN (P : Program) (one : TypeId → Option NT) (t : TypeId) : Option (List NT) := match P.underlying t with
  | some (.struct fs) => (fsN P one 0 fs.toList).bind fun ns => if P.cellsOf t = ns.length ∧ 0 < ns.length then some ns else none
  | _ => if P.cellsOf t = 1 then (one t).map fun s => [s] else none
def ntOf (P : Program) : Nat → TypeId → Option NT
  | 0, _ => none
  | d + 1, t => match P.underlying t with
    | some (.int k) => some (.int k)
    | some .bool => some .bool
    | some .string => some .str
    | some (.slice e) => (rowOfN P (ntOf P d) e).map .sl
    | _ => none
mutual
def cellN (H : Heap) : NT → C → Prop
  | .int k, c => ∃ n, c = .int k n ∧ (Lit.int k n).wf = true
  | .bool, c => ∃ b, c = .bool b
  | .str, c => ∃ s, c = .str s ∧ s.size ≤ maxLen
  | .sl row, c => ∃ rows, Sl H c row.length rows ∧ (∀ r ∈ rows, rowN H row r) ∧ rows.length ≤ maxLen
def rowN (H : Heap) : List NT → List C → Prop
  | [], cs => cs = []
  | n :: ns, cs => ∃ c r, cs = c :: r ∧ cellN H n c ∧ rowN H ns r
end
mutual
theorem cellN.grow {H H' : Heap} (g : Grow H H') : ∀ {n : NT} {c : C}, cellN H n c → cellN H' n c
  | .int _, _, h => by simp only [cellN] at h ⊢; exact h
  | .bool, _, h => by simp only [cellN] at h ⊢; exact h
  | .str, _, h => by simp only [cellN] at h ⊢; exact h
  | .sl row, _, h => by
    simp only [cellN] at h ⊢
    obtain ⟨rows, h1, h2, h3⟩ := h
    exact ⟨rows, h1.grow g, fun r hr => rowN.grow g (h2 r hr), h3⟩
theorem rowN.grow {H H' : Heap} (g : Grow H H') : ∀ {ns : List NT} {cs : List C}, rowN H ns cs → rowN H' ns cs
  | [], _, h => by simp only [rowN] at h ⊢; exact h
  | n :: ns, _, h => by
    simp only [rowN] at h ⊢
    obtain ⟨c, r, h1, h2, h3⟩ := h
    exact ⟨c, r, h1, cellN.grow g h2, rowN.grow g h3⟩
end
theorem rowN.length {H : Heap} : ∀ {ns : List NT} {cs : List C}, rowN H ns cs → cs.length = ns.length
  | [], cs, h => by simp only [rowN] at h; subst h; rfl
  | n :: ns, cs, h => by
    simp only [rowN] at h
    obtain ⟨c, r, rfl, _, h2⟩ := h
    simp [rowN.length h2]

/-- some block of cells -/
def HasBlock (w : World) : Prop := ∃ (b : Nat) (A : Array Value) (el : TypeId) (fz : Nat × Nat), w.heap[b]? = some (.cells A el fz)
def slice0V (v : Value) : Prop := ∃ a, v = .slice (some a) 0 0

section
variable {D : Type} {enc : TypeId × Value → D} {P : Program} {w : World} {base : Nat} {held : Bool}
/-- what comes in with a value of one cell -/
def InOne (w : World) (n : NT) (v : Value) : Prop := ∀ (φ : Phi) (H : Heap), HRel H.next φ H w → ∃ H' φ' c, HRel H'.next φ' H' w ∧ (∀ i p, φ i = some p → φ' i = some p) ∧ Grow H H' ∧ CRel H'.next φ' c v ∧ cellN H' n c
def InRow (w : World) (ns : List NT) (vs : List Value) : Prop := ∀ (φ : Phi) (H : Heap), HRel H.next φ H w → ∃ H' φ' r, HRel H'.next φ' H' w ∧ (∀ i p, φ i = some p → φ' i = some p) ∧ Grow H H' ∧ CsRel H'.next φ' r vs ∧ rowN H' ns r
theorem CsRel.up' {lim lim' : Nat} (hl : lim ≤ lim') {φ : Phi} {x : List C} {v : List Value} (h : CsRel lim φ x v) : CsRel lim' φ x v := CsRel.up hl h

theorem fields_in {one : TypeId → Option NT} {n : Nat} (hone : ∀ t nt v x, one t = some nt → DataW.trod enc P w base (fun _ => true) held n t [v] = some x → (slice0V v → HasBlock w) → InOne w nt v) :
    ∀ (fs : List Field) (k : Nat) (ns : List NT) (cs : List Value), fsN P one k fs = some ns → cs.length = k + ns.length →
    (∀ (i : Nat) f, fs[i]? = some f → ∃ x, DataW.trod enc P w base (fun _ => true) held n f.type ((cs.drop f.offset).take (P.cellsOf f.type)) = some x) → (∀ v ∈ cs, slice0V v → HasBlock w) → InRow w ns (cs.drop k)
  | [], k, ns, cs, hk, hl, _, _, φ, H, hH => by
    simp only [fsN] at hk; cases hk
    refine ⟨H, φ, [], hH, fun _ _ h => h, .refl _, ?_, by simp [rowN]⟩
    rw [List.drop_of_length_le (by simp at hl; omega)]; exact .nil
  | f :: fs, k, ns, cs, hk, hl, ht, hz, φ, H, hH => by
    simp only [fsN] at hk
    split at hk
    · rename_i ho
      obtain ⟨ho, hc1⟩ := ho
      obtain ⟨s, hs, hk⟩ := Option.bind_eq_some_iff.1 hk
      obtain ⟨ss, hss, hk⟩ := Option.bind_eq_some_iff.1 hk
      cases hk
      have hlt : k < cs.length := by simp at hl; omega
      obtain ⟨x, hx⟩ := ht 0 f rfl
      rw [hc1, ho] at hx
      have he : (cs.drop k).take 1 = [cs[k]] := by rw [List.drop_eq_getElem_cons hlt]; rfl
      rw [he] at hx
      obtain ⟨H1, φ1, c, a1, a2, a3, a4, a5⟩ := hone _ _ _ _ hs hx (hz _ (List.getElem_mem hlt)) φ H hH
      obtain ⟨H2, φ2, row, b1, b2, b3, b4, b5⟩ := fields_in hone fs (k + 1) ss cs hss (by simp at hl; omega) (fun i g hg => ht (i + 1) g (by simpa using hg)) hz φ1 H1 a1
      refine ⟨H2, φ2, c :: row, b1, fun i p hp => b2 i p (a2 i p hp), a3.trans b3, ?_, by simp only [rowN]; exact ⟨c, row, rfl, a5.grow b3, b5⟩⟩
      rw [List.drop_eq_getElem_cons hlt]
      exact .cons ((a4.mono b2).up b3.next) b4
    · cases hk
theorem rowOfN_len {one : TypeId → Option NT} {t : TypeId} {ns : List NT} (hr : rowOfN P one t = some ns) : P.cellsOf t = ns.length ∧ 0 < ns.length := by
  unfold rowOfN at hr
  split at hr
  · obtain ⟨ns', hns, hr⟩ := Option.bind_eq_some_iff.1 hr
    split at hr
    · rename_i hcl; cases hr; exact hcl
    · cases hr
  · split at hr
    · rename_i hc1
      obtain ⟨s, hs, rfl⟩ := Option.map_eq_some_iff.1 hr
      exact ⟨hc1, by simp⟩
    · cases hr
theorem row_in {one : TypeId → Option NT} {fuel : Nat} (hone : ∀ n t nt v x, one t = some nt → DataW.trod enc P w base (fun _ => true) held n t [v] = some x → (slice0V v → HasBlock w) → InOne w nt v)
    {t : TypeId} {ns : List NT} (hr : rowOfN P one t = some ns) {vs : List Value} {x : DataW D × List MemPlace} (hl : vs.length = P.cellsOf t) (h : DataW.trod enc P w base (fun _ => true) held fuel t vs = some x) (hz : ∀ v ∈ vs, slice0V v → HasBlock w) : InRow w ns vs := by
  unfold rowOfN at hr
  split at hr
  · rename_i fs hu
    obtain ⟨ns', hns, hr⟩ := Option.bind_eq_some_iff.1 hr
    split at hr
    · rename_i hcl
      cases hr
      obtain ⟨xs, n, _, _, _, hlen, hf⟩ := DataW.trod_struct hu h
      have := fields_in (n := n) (base := base) (held := held) (enc := enc) (fun t nt v x => hone n t nt v x) fs.toList 0 ns vs hns (by omega) (fun i f hfi => by
        have hfi' : fs[i]? = some f := by rw [← Array.getElem?_toList]; exact hfi
        have hlt : i < xs.length := by rw [hlen]; exact (Array.getElem?_eq_some_iff.1 hfi').1
        exact ⟨xs[i], by have := hf i f hfi'; simpa only [List.getElem?_eq_getElem hlt] using this⟩) hz
      rwa [List.drop_zero] at this
    · cases hr
  · split at hr
    · rename_i hc1
      obtain ⟨s, hs, rfl⟩ := Option.map_eq_some_iff.1 hr
      match vs, (by omega : vs.length = 1) with
      | [v], _ =>
        intro φ H hH
        obtain ⟨H', φ', c, h1, h2, h3, h4, h5⟩ := hone _ _ _ _ _ hs h (hz v (by simp)) φ H hH
        exact ⟨H', φ', [c], h1, h2, h3, .cons h4 .nil, by simp only [rowN]; exact ⟨c, [], rfl, h5, rfl⟩⟩
    · cases hr

/-- a value of one cell comes in -/
theorem nt_in : ∀ (d n : Nat) (t : TypeId) (nt : NT) (v : Value) (x : DataW D × List MemPlace), ntOf P d t = some nt → DataW.trod enc P w base (fun _ => true) held n t [v] = some x → (slice0V v → HasBlock w) → InOne w nt v
  | 0, n, t, nt, v, x, hn, _, _, φ, H, hH => by simp [ntOf] at hn
  | d + 1, n, t, nt, v, x, hn, h, hz, φ, H, hH => by
    simp only [ntOf] at hn
    split at hn
    · rename_i k hu
      cases hn
      obtain ⟨m, e, _, hw⟩ := DataW.trod_int hu h
      cases e
      exact ⟨H, φ, .int k m, hH, fun _ _ h => h, .refl _, .int k m, by simp only [cellN]; exact ⟨m, rfl, hw⟩⟩
    · rename_i hu
      cases hn
      obtain ⟨b, e, _⟩ := DataW.trod_bool hu h
      cases e
      exact ⟨H, φ, .bool b, hH, fun _ _ h => h, .refl _, .bool b, by simp only [cellN]; exact ⟨b, rfl⟩⟩
    · rename_i hu
      cases hn
      obtain ⟨s, e, _, hl⟩ := DataW.trod_string hu h
      cases e
      exact ⟨H, φ, .str s, hH, fun _ _ h => h, .refl _, .str s, by simp only [cellN]; exact ⟨s, rfl, hl⟩⟩
    · rename_i e hu
      obtain ⟨row, hrow, rfl⟩ := Option.map_eq_some_iff.1 hn
      rcases DataW.trod_slice hu h with ⟨h0, _⟩ | ⟨a, len, cap, elems, rest, m, _, hv, _, hb, hl, hm, hlen, hel, hsp, _⟩
      · cases h0
        exact ⟨H, φ, .nilSlice, hH, fun _ _ h => h, .refl _, .nilSlice, by simp only [cellN]; exact ⟨[], Sl.nil H _, fun _ h => (by cases h), Nat.zero_le _⟩⟩
      · cases hv
        by_cases hc0 : cap = 0
        · subst hc0
          have hl0 : len = 0 := by omega
          subst hl0
          obtain ⟨ab, A, el, fz, hA⟩ := hz ⟨a, rfl⟩
          obtain ⟨k1, k2⟩ := hH.take (off := 0) hA row.length (c := []) (vs := []) .nil (fun j hj => by simp at hj) (by simp)
          refine ⟨_, _, .slice H.next 0 0, k1, k2, .alloc _ _, .slice0 (Nat.lt_succ_self _), ?_⟩
          simp only [cellN]
          exact ⟨[], ⟨fun _ h => (by cases h), .inr ⟨H.next, 0, row.length, [], rfl, by simp, alloc_new _ _, by simp, by simp⟩⟩, fun _ h => (by cases h), Nat.zero_le _⟩
        · obtain ⟨hcl, hpos⟩ := rowOfN_len hrow
          -- the block
          have hblk : ∃ ab ao A el fz, a = ⟨ab, ao, none⟩ ∧ w.heap[ab]? = some (.cells A el fz) := by
            have key : ∀ us, w.cells? base (a.add 0) (P.cellsOf e) = some us → ∃ ab ao A el fz, a = ⟨ab, ao, none⟩ ∧ w.heap[ab]? = some (.cells A el fz) := fun us hus => by
              obtain ⟨_, q1, q2⟩ := World.cells?_some hus
              have q3 := q2 0 (by omega)
              have q5 : us[0]? = some (us[0]'(by omega)) := List.getElem?_eq_getElem _
              rw [q5] at q3
              have q4 : (a.add 0).add 0 = a := by simp [Addr.add]
              rw [q4] at q3
              obtain ⟨ab, ao, sp⟩ := a
              unfold World.cell? at q3
              split at q3
              · rename_i A el fz hA
                split at q3
                · cases q3
                · rename_i hsn
                  cases sp with
                  | none => exact ⟨ab, ao, A, el, fz, rfl, hA⟩
                  | some z => simp at hsn
              · cases q3
            by_cases hl0 : len = 0
            · subst hl0
              have hr0 := (hsp rfl).1
              obtain ⟨y, hy⟩ : ∃ y, rest[0]? = some y := ⟨rest[0]'(by omega), List.getElem?_eq_getElem _⟩
              have := (hsp rfl).2 0 (by omega)
              rw [hy] at this
              obtain ⟨us, hus, _⟩ := Option.bind_eq_some_iff.1 this
              exact key us (by simpa using hus)
            · obtain ⟨y, hy⟩ : ∃ y, elems[0]? = some y := ⟨elems[0]'(by omega), List.getElem?_eq_getElem _⟩
              have := hel 0 (by omega)
              rw [hy] at this
              obtain ⟨us, hus, _⟩ := Option.bind_eq_some_iff.1 this
              exact key us (by simpa using hus)
          obtain ⟨ab, ao, A, el, fz, rfl, hA⟩ := hblk
          have hcell : ∀ j, w.cell? ((⟨ab, ao, none⟩ : Addr).add j) = A[ao + j]? := fun j => by
            unfold Addr.add
            split
            · rename_i h0; subst h0; simp [World.cell?, hA]
            · simp [World.cell?, hA]
          -- the elements, one after the other
          have all : ∀ m', m' ≤ len → ∃ (Hm : Heap) (φm : Phi) (rows : List (List C)) (vs : List Value), HRel Hm.next φm Hm w ∧ (∀ i p, φ i = some p → φm i = some p) ∧ Grow H Hm ∧ rows.length = m' ∧ (∀ r ∈ rows, rowN Hm row r) ∧ CsRel Hm.next φm rows.flatten vs ∧ vs.length = m' * row.length ∧ ∀ k, k < vs.length → A[ao + k]? = vs[k]? := by
            intro m'
            induction m' with
            | zero => intro _; exact ⟨H, φ, [], [], hH, fun _ _ h => h, .refl _, rfl, fun _ h => (by cases h), .nil, by simp, fun k hk => by simp at hk⟩
            | succ m' ih =>
              intro hm'
              obtain ⟨Hm, φm, rows, vs, g1, g2, g3, g4, g5, g6, g7, g8⟩ := ih (by omega)
              obtain ⟨y, hy⟩ : ∃ y, elems[m']? = some y := ⟨elems[m']'(by omega), List.getElem?_eq_getElem _⟩
              have := hel m' (by omega)
              rw [hy] at this
              obtain ⟨us, hus, htr⟩ := Option.bind_eq_some_iff.1 this
              obtain ⟨_, k1, k2⟩ := World.cells?_some hus
              obtain ⟨H2, φ2, r, b1, b2, b3, b4, b5⟩ := row_in (fun n t nt v x h1 h2 h3 => nt_in d n t nt v x h1 h2 h3) hrow k1 htr (fun v _ _ => ⟨ab, A, el, fz, hA⟩) φm Hm g1
              have k3 : ∀ k, k < us.length → A[ao + (m' * row.length + k)]? = us[k]? := fun k hk => by
                rw [← k2 k (by omega), hcl]
                rw [show ((⟨ab, ao, none⟩ : Addr).add (m' * row.length)).add k = (⟨ab, ao, none⟩ : Addr).add (m' * row.length + k) from ?_]
                · rw [hcell]
                · unfold Addr.add
                  by_cases e1 : m' * row.length = 0 <;> by_cases e2 : k = 0 <;> simp [e1, e2, Nat.add_assoc]
              refine ⟨H2, φ2, rows ++ [r], vs ++ us, b1, fun i p hp => b2 i p (g2 i p hp), g3.trans b3, by simp [g4], fun z hz => ?_, ?_, by rw [List.length_append, g7, k1, hcl, Nat.add_mul, Nat.one_mul], fun k hk => ?_⟩
              · rcases List.mem_append.1 hz with hz | hz
                · exact (g5 z hz).grow b3
                · simp only [List.mem_singleton] at hz; subst hz; exact b5
              · rw [List.flatten_append]; simp only [List.flatten_cons, List.flatten_nil, List.append_nil]
                exact CsRel.append (CsRel.up b3.next (g6.mono b2)) b4
              · by_cases hlt : k < vs.length
                · rw [List.getElem?_append_left hlt]; exact g8 k hlt
                · rw [List.getElem?_append_right (by omega)]
                  rw [List.length_append] at hk
                  have := k3 (k - vs.length) (by omega)
                  rw [← this, g7]; congr 1; rw [← g7]; omega
          obtain ⟨Hm, φm, rows, vs, g1, g2, g3, g4, g5, g6, g7, g8⟩ := all len (Nat.le_refl _)
          have hrl : ∀ r ∈ rows, r.length = row.length := fun r hr => (g5 r hr).length
          have hfl : rows.flatten.length = len * row.length := by rw [flat_len' hrl, g4]
          have hoff : ao + rows.flatten.length ≤ A.size := by
            by_cases hl0 : len = 0
            · subst hl0
              have hr0 := (hsp rfl).1
              obtain ⟨y, hy⟩ : ∃ y, rest[0]? = some y := ⟨rest[0]'(by omega), List.getElem?_eq_getElem _⟩
              have := (hsp rfl).2 0 (by omega)
              rw [hy] at this
              obtain ⟨us, hus, htr⟩ := Option.bind_eq_some_iff.1 this
              obtain ⟨_, q1, q2⟩ := World.cells?_some hus
              have q3 := q2 0 (by omega)
              simp only [Nat.zero_add, Nat.zero_mul] at q3
              have q4 : ((⟨ab, ao, none⟩ : Addr).add 0).add 0 = (⟨ab, ao, none⟩ : Addr).add 0 := by simp [Addr.add]
              rw [q4, hcell] at q3
              have q5 : us[0]? = some (us[0]'(by omega)) := List.getElem?_eq_getElem _
              rw [q5] at q3
              have := (Array.getElem?_eq_some_iff.1 q3).1
              rw [hfl]; simp; omega
            · have hpos' : 0 < len * row.length := Nat.mul_pos (by omega) hpos
              have q := g8 (len * row.length - 1) (by omega)
              have q5 : vs[len * row.length - 1]? = some (vs[len * row.length - 1]'(by omega)) := List.getElem?_eq_getElem _
              rw [q5] at q
              have := (Array.getElem?_eq_some_iff.1 q).1
              rw [hfl]; omega
          obtain ⟨k1, k2⟩ := g1.take (off := ao) hA row.length g6 g8 hoff
          refine ⟨_, _, .slice Hm.next 0 len, k1, fun i p hp => k2 i p (g2 i p hp), g3.to_alloc _, ?_, ?_⟩
          · exact .slice (p := ⟨ab, ao, A.size, row.length⟩) (Phi.add_same _ _ _) hl (.inr rfl) (fun hi => by simp only [alloc_next] at hi; omega)
          · simp only [cellN]
            refine ⟨rows, ⟨hrl, .inr ⟨Hm.next, 0, row.length, rows.flatten, by rw [g4], by simp, alloc_new _ _, by rw [hfl, g4]; simp, ?_⟩⟩, fun r hr => (g5 r hr).grow (.alloc _ _), by rw [g4]; omega⟩
            rw [List.drop_zero, List.take_of_length_le (by rw [hfl, g4]; exact Nat.le_refl _)]
    · cases hn

/-! ### the parameters of a law -/
inductive PN where
  | one (n : NT)
  | struct (ns : List NT)
def pnOf (P : Program) (d : Nat) (t : TypeId) : Option PN := match P.underlying t with
  | some (.struct fs) => (P.cellTypes P.depth t).bind fun ts => (fsN P (ntOf P d) 0 fs.toList).bind fun ns => if P.cellsOf t = ns.length ∧ fs.toList.map (·.type) = ts then some (.struct ns) else none
  | some (.array _ _) => none
  | _ => (ntOf P d t).map .one
def paramN (H : Heap) : PN → V → Prop
  | .one n, v => ∃ c, v = .c c ∧ cellN H n c
  | .struct ns, v => ∃ cs, v = .agg cs ∧ rowN H ns cs
def paramsN (H : Heap) : List PN → List V → Prop
  | [], vs => vs = []
  | d :: ds, vs => ∃ v r, vs = v :: r ∧ paramN H d v ∧ paramsN H ds r
theorem paramN.grow {H H' : Heap} (g : Grow H H') : ∀ {d : PN} {v : V}, paramN H d v → paramN H' d v
  | .one _, _, ⟨c, h1, h2⟩ => ⟨c, h1, h2.grow g⟩
  | .struct _, _, ⟨cs, h1, h2⟩ => ⟨cs, h1, h2.grow g⟩
theorem fsN_get {one : TypeId → Option NT} : ∀ {fs : List Field} {k : Nat} {ns : List NT}, fsN P one k fs = some ns → fs.length = ns.length ∧ ∀ (i : Nat) f, fs[i]? = some f → f.offset = k + i ∧ P.cellsOf f.type = 1 ∧ ∃ s, one f.type = some s
  | [], k, ns, h => by simp only [fsN] at h; cases h; exact ⟨rfl, fun i f hf => by simp at hf⟩
  | f :: fs, k, ns, h => by
    simp only [fsN] at h
    split at h
    · rename_i ho
      obtain ⟨s, hs, h⟩ := Option.bind_eq_some_iff.1 h
      obtain ⟨ss, hss, h⟩ := Option.bind_eq_some_iff.1 h
      cases h
      obtain ⟨h1, h2⟩ := fsN_get hss
      refine ⟨by simp [h1], fun i g hg => ?_⟩
      cases i with
      | zero => simp only [List.getElem?_cons_zero, Option.some.injEq] at hg; subst hg; exact ⟨ho.1, ho.2, s, hs⟩
      | succ i =>
        obtain ⟨h3, h4⟩ := h2 i g (by simpa using hg)
        exact ⟨by omega, h4⟩
    · cases h
theorem top_block {d n b0 : Nat} {t : TypeId} {nt : NT} {v : Value} {x : DataW D × List MemPlace} (hn : ntOf P d t = some nt) (h : DataW.trod enc P w base (fun _ => true) held n t [v] = some x) (hok : Cell.okWide P w .any b0 t v) (h0 : slice0V v) : HasBlock w := by
  obtain ⟨a, rfl⟩ := h0
  cases d with
  | zero => simp [ntOf] at hn
  | succ d =>
    simp only [ntOf] at hn
    split at hn
    · rename_i k hu; obtain ⟨m, e, _⟩ := DataW.trod_int hu h; cases e
    · rename_i hu; obtain ⟨m, e, _⟩ := DataW.trod_bool hu h; cases e
    · rename_i hu; obtain ⟨m, e, _⟩ := DataW.trod_string hu h; cases e
    · rename_i e hu
      unfold Cell.okWide at hok
      rw [hu] at hok
      simp only [Cell.ok, hu] at hok
      obtain ⟨_, hspot, row, cells, hshape, _⟩ := hok.2.2
      unfold World.shape? at hshape
      split at hshape
      · rename_i c el fz hc; exact ⟨_, c, el, fz, hc⟩
      · cases hshape
    · cases hn
theorem param_inN {d b0 : Nat} {t : TypeId} {pd : PN} {v : Value} {dd : DataW D} {ps : List MemPlace} (hd : pnOf P d t = some pd) (h : DataW.Trod enc P w base (fun _ => true) held t v dd ps) (hok : Value.okWide P w .any b0 t v) {φ : Phi} {H : Heap} (hH : HRel H.next φ H w) :
    ∃ H' φ' x, HRel H'.next φ' H' w ∧ (∀ i p, φ i = some p → φ' i = some p) ∧ Grow H H' ∧ VRel H'.next φ' x v ∧ paramN H' pd x := by
  obtain ⟨fuel, h⟩ := h
  unfold pnOf at hd
  split at hd
  · rename_i fs hu
    obtain ⟨ts, hts, hd⟩ := Option.bind_eq_some_iff.1 hd
    obtain ⟨ns, hns, hd⟩ := Option.bind_eq_some_iff.1 hd
    split at hd
    · rename_i hl
      cases hd
      unfold Value.okWide at hok
      simp only [hu] at hok
      obtain ⟨cs, rfl, hsz, ts', hts', _, hrow⟩ := hok
      rw [hts] at hts'; cases hts'
      obtain ⟨xs, n, _, _, hlen, hxs, hf⟩ := DataW.trod_struct hu h
      obtain ⟨hfl, hfs⟩ := fsN_get hns
      have hcl : cs.toList.length = ns.length := by simp [hsz, hl.1]
      have htr : ∀ (i : Nat) f, fs.toList[i]? = some f → ∃ x, DataW.trod enc P w base (fun _ => true) held n f.type ((cs.toList.drop f.offset).take (P.cellsOf f.type)) = some x := fun i f hfi => by
        have hfi' : fs[i]? = some f := by rw [← Array.getElem?_toList]; exact hfi
        have hlt : i < xs.length := by rw [hxs]; exact (Array.getElem?_eq_some_iff.1 hfi').1
        exact ⟨xs[i], by have := hf i f hfi'; simpa only [Value.cells, List.getElem?_eq_getElem hlt] using this⟩
      obtain ⟨H', φ', row, h1, h2, h3, h4, h5⟩ := fields_in (n := n) (base := base) (held := held) (enc := enc) (fun t nt v x => nt_in d n t nt v x) fs.toList 0 ns cs.toList hns (by omega) htr (fun v hv h0 => by
        obtain ⟨i, hi⟩ := List.getElem?_of_mem hv
        have hilt := (List.getElem?_eq_some_iff.1 hi).1
        have hfi : fs.toList[i]? = some (fs.toList[i]'(by omega)) := List.getElem?_eq_getElem _
        obtain ⟨ho, hc1, s, hs⟩ := hfs i _ hfi
        obtain ⟨x, hx⟩ := htr i _ hfi
        rw [hc1, ho, Nat.zero_add] at hx
        have he : (cs.toList.drop i).take 1 = [v] := by
          rw [List.drop_eq_getElem_cons hilt]
          have := (List.getElem?_eq_some_iff.1 hi).2
          simp [this]
        rw [he] at hx
        obtain ⟨u, hu1, hu2⟩ := hrow i v (by rw [← Array.getElem?_toList]; exact hi)
        have htl : ts.length = ns.length := by rw [← hl.2, List.length_map, hfl]
        rw [Nat.mod_eq_of_lt (by omega), ← hl.2, List.getElem?_map, hfi] at hu1
        cases hu1
        exact top_block hs hx hu2 h0) φ H hH
      exact ⟨H', φ', .agg row, h1, h2, h3, .agg (by simpa using h4), row, rfl, h5⟩
    · cases hd
  · cases hd
  · rename_i hns hna
    obtain ⟨k, hk, rfl⟩ := Option.map_eq_some_iff.1 hd
    have hokc : Cell.okWide P w .any b0 t v := by
      unfold Value.okWide at hok
      split at hok
      · rename_i fs hu; exact absurd hu (hns fs)
      · rename_i n e hu; exact absurd hu (hna n e)
      · exact hok
    have hv : v.cells.toList = [v] := by
      have hk' := hk
      cases d with
      | zero => simp [ntOf] at hk
      | succ d =>
        simp only [ntOf] at hk
        have agg : ∀ arr, v = .agg arr → False := fun arr e => by
          subst e
          unfold Cell.okWide at hokc
          split at hk <;> rename_i hu <;> first | (cases hk; done) | (rw [hu] at hokc; simp only [Cell.ok, hu] at hokc)
        have one : ∃ v', v.cells.toList = [v'] := by
          split at hk <;> rename_i hu
          · obtain ⟨m, e, _⟩ := DataW.trod_int hu h; exact ⟨_, e⟩
          · obtain ⟨m, e, _⟩ := DataW.trod_bool hu h; exact ⟨_, e⟩
          · obtain ⟨m, e, _⟩ := DataW.trod_string hu h; exact ⟨_, e⟩
          · rcases DataW.trod_slice hu h with ⟨e, _⟩ | ⟨a, len, cap, elems, rest, n, _, e, _⟩ <;> exact ⟨_, e⟩
          · cases hk
        cases v <;> first | rfl | (exact (agg _ rfl).elim) | (obtain ⟨v', e⟩ := one; simp [Value.cells] at e)
    rw [hv] at h
    obtain ⟨H', φ', c, h1, h2, h3, h4, h5⟩ := nt_in d _ t k v _ hk h (fun h0 => top_block hk h hokc h0) φ H hH
    exact ⟨H', φ', .c c, h1, h2, h3, .c h4, c, rfl, h5⟩
theorem params_inN {d b0 : Nat} : ∀ (ts : List TypeId) (vs : List Value) (dd : List (DataW D)) (ps : List MemPlace) (ds : List PN), (∀ (i : Nat) t, ts[i]? = some t → pnOf P d t = ds[i]?) → ds.length = ts.length → DataW.TrodAll enc P w base (fun _ => true) held ts vs dd ps →
    (∀ (j : Nat) t v, ts[j]? = some t → vs[j]? = some v → Value.okWide P w .any b0 t v) → ∀ {φ : Phi} {H : Heap}, HRel H.next φ H w →
    ∃ H' φ' xs, HRel H'.next φ' H' w ∧ (∀ i p, φ i = some p → φ' i = some p) ∧ Grow H H' ∧ VsRel H'.next φ' xs vs ∧ paramsN H' ds xs
  | [], vs, dd, ps, ds, hd, hl, h, hok, φ, H, hH => by
    obtain ⟨rfl, rfl, rfl⟩ := ChangeShapes.trodAll_nil h
    have := List.eq_nil_of_length_eq_zero hl; subst this
    exact ⟨H, φ, [], hH, fun _ _ h => h, .refl _, .nil, rfl⟩
  | t :: ts, vs, dd, ps, ds, hd, hl, h, hok, φ, H, hH => by
    obtain ⟨v, vs', d, dd', p, q, rfl, rfl, rfl, h1, h2⟩ := ChangeShapes.trodAll_cons h
    cases ds with
    | nil => simp at hl
    | cons e ds =>
      obtain ⟨H1, φ1, x, a1, a2, a3, a4, a5⟩ := param_inN (pd := e) (hd 0 t rfl) h1 (hok 0 t v rfl rfl) hH
      obtain ⟨H2, φ2, xs, b1, b2, b3, b4, b5⟩ := params_inN ts vs' dd' q ds (fun i t ht => hd (i + 1) t (by simpa using ht)) (by simpa using hl) h2 (fun j t v ht hv => hok (j + 1) t v (by simpa using ht) (by simpa using hv)) a1
      exact ⟨H2, φ2, x :: xs, b1, fun i p hp => b2 i p (a2 i p hp), a3.trans b3, .cons ((a4.mono b2).up b3.next) b4, ⟨x, xs, rfl, a5.grow b3, b5⟩⟩
end
end Go.Proofs.Ytnnjklkfcleleaa.Vm
