/-
  THE MACHINE AND THE MODEL: what it means that an abstract state stands for a state of the model; how the heap's steps keep it.
-/
import Derived.Test.YtnnjklkfcleleaaVb
import Derived.Laws.Entries
import Derived.Laws.Cells
import Derived.Laws.Rows
import Derived.Laws.Append
namespace Go.Proofs.Ytnnjklkfcleleaa.Vm
open Go
set_option linter.unusedVariables false
set_option linter.unusedSimpArgs false

structure Pl where
  blk : Nat
  sh : Nat
  n : Nat
  sz : Nat
abbrev Phi := Nat → Option Pl

mutual
inductive CRel (lim : Nat) (φ : Phi) : C → Value → Prop
  | junk {x : Value} : x.oneCell' = true → CRel lim φ .junk x
  | bool (b : Bool) : CRel lim φ (.bool b) (.bool b)
  | int (k : IntKind) (n : Int) : CRel lim φ (.int k n) (.int k n)
  | str (s : ByteArray) : CRel lim φ (.str s) (.string s)
  | nilPtr : CRel lim φ .nilPtr (.pointer none)
  | ptr {i o : Nat} {p : Pl} : φ i = some p → CRel lim φ (.ptr i o) (.pointer (some ⟨p.blk, p.sh + o, none⟩))
  | nilSlice : CRel lim φ .nilSlice (.slice none 0 0)
  | slice {i o n off c : Nat} {p : Pl} : φ i = some p → n ≤ c → (c = 0 ∨ off = p.sh + o) → (lim ≤ i → c = 0 ∨ off + c * p.sz ≤ p.n) →
      CRel lim φ (.slice i o n) (.slice (some ⟨p.blk, off, none⟩) n c)
  | slice0 {i o : Nat} {a : Addr} : i < lim → CRel lim φ (.slice i o 0) (.slice (some a) 0 0)
  | nilMap : CRel lim φ .nilMap (.map none)
  | map {i : Nat} {p : Pl} : φ i = some p → CRel lim φ (.map i) (.map (some p.blk))
  | func {f : FuncId} {a c : List C} {a' c' : Array Value} : CsRel lim φ a a'.toList → CsRel lim φ c c'.toList → CRel lim φ (.func f a c) (.func (.func f) a' c')
  | nilFunc : CRel lim φ .nilFunc .nilFunc
  | ifaceC {t : TypeId} {x : C} {v : Value} : CRel lim φ x v → CRel lim φ (.iface t false [x]) (.iface t v)
  | ifaceA {t : TypeId} {cs : List C} {arr : Array Value} : CsRel lim φ cs arr.toList → CRel lim φ (.iface t true cs) (.iface t (.agg arr))
  | nilIface : CRel lim φ .nilIface .nilIface
inductive CsRel (lim : Nat) (φ : Phi) : List C → List Value → Prop
  | nil : CsRel lim φ [] []
  | cons {x : C} {v : Value} {xs : List C} {vs : List Value} : CRel lim φ x v → CsRel lim φ xs vs → CsRel lim φ (x :: xs) (v :: vs)
end
mutual
inductive VRel (lim : Nat) (φ : Phi) : V → Value → Prop
  | c {x : C} {v : Value} : CRel lim φ x v → VRel lim φ (.c x) v
  | agg {cs : List C} {arr : Array Value} : CsRel lim φ cs arr.toList → VRel lim φ (.agg cs) (.agg arr)
  | tuple {vs : List V} {arr : Array Value} : VsRel lim φ vs arr.toList → VRel lim φ (.tuple vs) (.tuple arr)
inductive VsRel (lim : Nat) (φ : Phi) : List V → List Value → Prop
  | nil : VsRel lim φ [] []
  | cons {x : V} {v : Value} {xs : List V} {vs : List Value} : VRel lim φ x v → VsRel lim φ xs vs → VsRel lim φ (x :: xs) (v :: vs)
end

variable {lim : Nat}

theorem CRel.one {φ : Phi} {x : C} {v : Value} (h : CRel lim φ x v) : v.oneCell' = true := by cases h <;> first | rfl | assumption

mutual
theorem CRel.mono {φ φ' : Phi} (hm : ∀ i p, φ i = some p → φ' i = some p) : ∀ {x : C} {v : Value}, CRel lim φ x v → CRel lim φ' x v
  | _, _, .junk h => .junk h
  | _, _, .bool b => .bool b
  | _, _, .int k n => .int k n
  | _, _, .str s => .str s
  | _, _, .nilPtr => .nilPtr
  | _, _, .ptr h => .ptr (hm _ _ h)
  | _, _, .nilSlice => .nilSlice
  | _, _, .slice h a b c => .slice (hm _ _ h) a b c
  | _, _, .slice0 h => .slice0 h
  | _, _, .nilMap => .nilMap
  | _, _, .map h => .map (hm _ _ h)
  | _, _, .func a b => .func (CsRel.mono hm a) (CsRel.mono hm b)
  | _, _, .nilFunc => .nilFunc
  | _, _, .ifaceC h => .ifaceC (CRel.mono hm h)
  | _, _, .ifaceA h => .ifaceA (CsRel.mono hm h)
  | _, _, .nilIface => .nilIface
theorem CsRel.mono {φ φ' : Phi} (hm : ∀ i p, φ i = some p → φ' i = some p) : ∀ {x : List C} {v : List Value}, CsRel lim φ x v → CsRel lim φ' x v
  | _, _, .nil => .nil
  | _, _, .cons a b => .cons (CRel.mono hm a) (CsRel.mono hm b)
end
mutual
theorem VRel.mono {φ φ' : Phi} (hm : ∀ i p, φ i = some p → φ' i = some p) : ∀ {x : V} {v : Value}, VRel lim φ x v → VRel lim φ' x v
  | _, _, .c h => .c (h.mono hm)
  | _, _, .agg h => .agg (h.mono hm)
  | _, _, .tuple h => .tuple (VsRel.mono hm h)
theorem VsRel.mono {φ φ' : Phi} (hm : ∀ i p, φ i = some p → φ' i = some p) : ∀ {x : List V} {v : List Value}, VsRel lim φ x v → VsRel lim φ' x v
  | _, _, .nil => .nil
  | _, _, .cons a b => .cons (VRel.mono hm a) (VsRel.mono hm b)
end

section lists
variable {φ : Phi}
theorem CsRel.length {xs : List C} {vs : List Value} (h : CsRel lim φ xs vs) : xs.length = vs.length := by
  induction xs generalizing vs with
  | nil => cases h; rfl
  | cons x xs ih => cases h with | cons a b => simp [ih b]
theorem VsRel.length {xs : List V} {vs : List Value} (h : VsRel lim φ xs vs) : xs.length = vs.length := by
  induction xs generalizing vs with
  | nil => cases h; rfl
  | cons x xs ih => cases h with | cons a b => simp [ih b]
theorem CsRel.get {xs : List C} {vs : List Value} (h : CsRel lim φ xs vs) : ∀ {j : Nat} {x : C}, xs[j]? = some x → ∃ v, vs[j]? = some v ∧ CRel lim φ x v := by
  induction xs generalizing vs with
  | nil => intro j x hx; simp at hx
  | cons y ys ih =>
    cases h with
    | cons a b =>
      intro j x hx
      cases j with
      | zero => simp at hx; subst hx; exact ⟨_, rfl, a⟩
      | succ j => exact ih b (by simpa using hx)
theorem VsRel.get {xs : List V} {vs : List Value} (h : VsRel lim φ xs vs) : ∀ {j : Nat} {x : V}, xs[j]? = some x → ∃ v, vs[j]? = some v ∧ VRel lim φ x v := by
  induction xs generalizing vs with
  | nil => intro j x hx; simp at hx
  | cons y ys ih =>
    cases h with
    | cons a b =>
      intro j x hx
      cases j with
      | zero => simp at hx; subst hx; exact ⟨_, rfl, a⟩
      | succ j => exact ih b (by simpa using hx)
theorem CsRel.of_get : ∀ {xs : List C} {vs : List Value}, xs.length = vs.length → (∀ (j : Nat) x v, xs[j]? = some x → vs[j]? = some v → CRel lim φ x v) → CsRel lim φ xs vs
  | [], [], _, _ => .nil
  | x :: xs, v :: vs, hl, h => .cons (h 0 x v rfl rfl) (CsRel.of_get (by simpa using hl) fun j a b ha hb => h (j + 1) a b (by simpa using ha) (by simpa using hb))
  | [], _ :: _, hl, _ => by simp at hl
  | _ :: _, [], hl, _ => by simp at hl
theorem CsRel.append {xs ys : List C} {vs ws : List Value} (h : CsRel lim φ xs vs) (k : CsRel lim φ ys ws) : CsRel lim φ (xs ++ ys) (vs ++ ws) := by
  induction xs generalizing vs with
  | nil => cases h; exact k
  | cons x xs ih => cases h with | cons a b => exact .cons a (ih b)
theorem CsRel.take {xs : List C} {vs : List Value} (h : CsRel lim φ xs vs) (n : Nat) : CsRel lim φ (xs.take n) (vs.take n) := by
  induction n generalizing xs vs with
  | zero => simp; exact .nil
  | succ n ih =>
    cases h with
    | nil => simp; exact .nil
    | cons a b => simp; exact .cons a (ih b)
theorem CsRel.drop {xs : List C} {vs : List Value} (h : CsRel lim φ xs vs) (n : Nat) : CsRel lim φ (xs.drop n) (vs.drop n) := by
  induction n generalizing xs vs with
  | zero => simpa using h
  | succ n ih =>
    cases h with
    | nil => simp; exact .nil
    | cons a b => simpa using ih b
theorem CsRel.set {xs : List C} {vs : List Value} (h : CsRel lim φ xs vs) {x : C} {v : Value} (hx : CRel lim φ x v) (n : Nat) : CsRel lim φ (xs.set n x) (vs.set n v) := by
  induction n generalizing xs vs with
  | zero =>
    cases h with
    | nil => exact .nil
    | cons a b => exact .cons hx b
  | succ n ih =>
    cases h with
    | nil => exact .nil
    | cons a b => exact .cons a (ih b)
theorem CsRel.one {xs : List C} {vs : List Value} (h : CsRel lim φ xs vs) : ∀ v ∈ vs, v.oneCell' = true := by
  induction xs generalizing vs with
  | nil => cases h; simp
  | cons x xs ih => cases h with
    | cons a b =>
      intro v hv
      rcases List.mem_cons.1 hv with rfl | hv
      · exact a.one
      · exact ih b v hv
theorem CsRel.replicate {x : C} {v : Value} (h : CRel lim φ x v) (n : Nat) : CsRel lim φ (List.replicate n x) (List.replicate n v) := by
  induction n with
  | zero => exact .nil
  | succ n ih => exact .cons h ih
theorem CsRel.flatten {z : List C} {zs : List Value} (h : CsRel lim φ z zs) (n : Nat) : CsRel lim φ (List.replicate n z).flatten (List.replicate n zs).flatten := by
  induction n with
  | zero => exact .nil
  | succ n ih => simp only [List.replicate_succ, List.flatten_cons]; exact h.append ih
theorem VsRel.append {xs ys : List V} {vs ws : List Value} (h : VsRel lim φ xs vs) (k : VsRel lim φ ys ws) : VsRel lim φ (xs ++ ys) (vs ++ ws) := by
  induction xs generalizing vs with
  | nil => cases h; exact k
  | cons x xs ih => cases h with | cons a b => exact .cons a (ih b)
theorem CsRel.vs {xs : List C} {vs : List Value} (h : CsRel lim φ xs vs) : VsRel lim φ (xs.map V.c) vs := by
  induction xs generalizing vs with
  | nil => cases h; exact .nil
  | cons x xs ih => cases h with | cons a b => exact .cons (.c a) (ih b)
/-- the cells of a value -/
theorem VRel.cells {v : V} {x : Value} (h : VRel lim φ v x) {xs : List C} (hx : v.cells = some xs) : CsRel lim φ xs x.cells.toList := by
  cases h with
  | c a =>
    simp only [V.cells, Option.some.injEq] at hx; subst hx
    have := a.one
    cases x <;> simp [Value.cells, Value.oneCell'] at this ⊢ <;> exact .cons a .nil
  | agg a => simp only [V.cells, Option.some.injEq] at hx; subst hx; exact a
  | tuple a => simp [V.cells] at hx
theorem splice_length : ∀ (xs : List C) (c : List C) (o : Nat), (splice c o xs).length = c.length
  | [], _, _ => rfl
  | x :: xs, c, o => by simp [splice, splice_length xs]
end lists

/-- what an object stands for -/
def MRel (lim : Nat) (φ : Phi) (es : List (C × V)) (ES : List MapEntry) : Prop :=
  es.length = ES.length ∧ ∀ (j : Nat) (k : C) (v : V), es[j]? = some (k, v) → ∃ e, ES[j]? = some e ∧ CRel lim φ k e.key ∧ VRel lim φ v e.val

structure HRel (lim : Nat) (φ : Phi) (H : Heap) (w : World) : Prop where
  low : lim ≤ H.next
  dom : ∀ i, H.next ≤ i → φ i = none
  bound : ∀ i p, φ i = some p → p.blk < w.heap.size
  cells : ∀ i sz c, H.get i = some (.cells sz c) → ∃ p A el fz, φ i = some p ∧ w.heap[p.blk]? = some (.cells A el fz) ∧ A.size = p.n ∧ p.sh + c.length ≤ p.n ∧
    (lim ≤ i → p.sz = sz ∧ fz = (0, 0)) ∧ ∀ (j : Nat) x, c[j]? = some x → ∃ v, A[p.sh + j]? = some v ∧ CRel lim φ x v
  maps : ∀ i es, H.get i = some (.map es) → ∃ p ES clock, φ i = some p ∧ w.heap[p.blk]? = some (.map ES clock) ∧ MRel lim φ es ES.toList ∧ ∀ e ∈ ES.toList, e.born < clock
  inj : ∀ i j p q, lim ≤ j → H.get i ≠ none → H.get j ≠ none → φ i = some p → φ j = some q → p.blk = q.blk → i = j

structure Ext (lim : Nat) (φ : Phi) (w : World) (φ' : Phi) (w' : World) : Prop where
  mono : ∀ i p, φ i = some p → φ' i = some p
  fresh : ∀ i p, φ' i = some p → φ i = some p ∨ (lim ≤ i ∧ (w.heap.size ≤ p.blk ∨ ∃ j q, lim ≤ j ∧ φ j = some q ∧ q.blk = p.blk))
  size : w.heap.size ≤ w'.heap.size
  same : ∀ b, b < w.heap.size → (∀ j q, lim ≤ j → φ j = some q → q.blk ≠ b) → w'.heap[b]? = w.heap[b]?
  os : w'.os = w.os
  tape : w'.tape = w.tape
  output : w'.output = w.output
  froz : ∀ a, w'.frozen? a = w.frozen? a

theorem Ext.refl (φ : Phi) (w : World) : Ext lim φ w φ w := ⟨fun _ _ h => h, fun _ _ h => .inl h, Nat.le_refl _, fun _ _ _ => rfl, rfl, rfl, rfl, fun _ => rfl⟩
theorem Ext.trans {φ φ' φ'' : Phi} {w w' w'' : World} (h : Ext lim φ w φ' w') (k : Ext lim φ' w' φ'' w'') : Ext lim φ w φ'' w'' := by
  refine ⟨fun i p hp => k.mono _ _ (h.mono _ _ hp), fun i p hp => ?_, Nat.le_trans h.size k.size, fun b hb hn => ?_, k.os.trans h.os, k.tape.trans h.tape, k.output.trans h.output, fun a => (k.froz a).trans (h.froz a)⟩
  · rcases k.fresh i p hp with hp | ⟨hl, hs | ⟨j, q, hj, hq, e⟩⟩
    · exact h.fresh i p hp
    · exact .inr ⟨hl, .inl (Nat.le_trans h.size hs)⟩
    · rcases h.fresh j q hq with hq | ⟨hl', hs | ⟨j', q', hj', hq', e'⟩⟩
      · exact .inr ⟨hl, .inr ⟨j, q, hj, hq, e⟩⟩
      · exact .inr ⟨hl, .inl (e ▸ hs)⟩
      · exact .inr ⟨hl, .inr ⟨j', q', hj', hq', e'.trans e⟩⟩
  · rw [k.same b (Nat.lt_of_lt_of_le hb h.size) ?_, h.same b hb hn]
    intro j q hj hq e
    rcases h.fresh j q hq with hq | ⟨_, hs | ⟨j', q', hj', hq', e'⟩⟩
    · exact hn j q hj hq e
    · omega
    · exact hn j' q' hj' hq' (e'.trans e)

theorem Ext.drew {φ φ' : Phi} {w w' : World} (h : Ext lim φ w φ' w') : Ext lim φ w φ' w'.drew := ⟨h.mono, h.fresh, h.size, h.same, h.os, h.tape, h.output, h.froz⟩
theorem HRel.drew {φ : Phi} {H : Heap} {w : World} (h : HRel lim φ H w) : HRel lim φ H w.drew := ⟨h.low, h.dom, h.bound, h.cells, h.maps, h.inj⟩

def Phi.add (φ : Phi) (i : Nat) (p : Pl) : Phi := fun j => if j = i then some p else φ j
theorem Phi.add_same (φ : Phi) (i : Nat) (p : Pl) : φ.add i p i = some p := by simp [Phi.add]
theorem Phi.add_mono {φ : Phi} {i : Nat} (p : Pl) (h : φ i = none) : ∀ j q, φ j = some q → φ.add i p j = some q := by
  intro j q hq
  by_cases e : j = i
  · subst e; rw [h] at hq; cases hq
  · simpa [Phi.add, e] using hq

theorem MRel.mono {φ φ' : Phi} (hm : ∀ i p, φ i = some p → φ' i = some p) {es : List (C × V)} {ES : List MapEntry} (h : MRel lim φ es ES) : MRel lim φ' es ES :=
  ⟨h.1, fun j k v hj => let ⟨e, h1, h2, h3⟩ := h.2 j k v hj; ⟨e, h1, h2.mono hm, h3.mono hm⟩⟩

theorem frozen_alloc_cells (w : World) (c : Array Value) (t : TypeId) (a : Addr) : (w.alloc (.cells c t)).frozen? a = w.frozen? a := by
  by_cases h : a.block = w.heap.size
  · have e1 : (w.alloc (.cells c t)).heap[a.block]? = some (.cells c t (0, 0)) := by rw [h]; exact heap_alloc_new _ _
    have e2 : w.heap[a.block]? = none := by rw [h]; simp
    simp [World.frozen?, e1, e2]
  · have e1 : (w.alloc (.cells c t)).heap[a.block]? = w.heap[a.block]? := by
      show (w.heap.push _)[a.block]? = _
      rw [Array.getElem?_push, if_neg h]
    simp only [World.frozen?, e1]
theorem frozen_alloc_map (w : World) (es : Array MapEntry) (clock : Nat) (a : Addr) : (w.alloc (.map es clock)).frozen? a = w.frozen? a := by
  by_cases h : a.block = w.heap.size
  · have e1 : (w.alloc (.map es clock)).heap[a.block]? = some (.map es clock) := by rw [h]; exact heap_alloc_new _ _
    have e2 : w.heap[a.block]? = none := by rw [h]; simp
    simp [World.frozen?, e1, e2]
  · have e1 : (w.alloc (.map es clock)).heap[a.block]? = w.heap[a.block]? := by
      show (w.heap.push _)[a.block]? = _
      rw [Array.getElem?_push, if_neg h]
    simp only [World.frozen?, e1]
/-- a new object -/
theorem HRel.alloc {φ : Phi} {H : Heap} {w : World} (h : HRel lim φ H w) (o : Obj) (O : Go.Obj) (n sz : Nat)
    (hc : ∀ sz' c, o = .cells sz' c → ∃ A el, O = .cells A el (0, 0) ∧ A.size = n ∧ sz = sz' ∧ c.length ≤ n ∧ ∀ (j : Nat) x, c[j]? = some x → ∃ v, A[j]? = some v ∧ CRel lim φ x v)
    (hm : ∀ es, o = .map es → ∃ ES clock, O = .map ES clock ∧ MRel lim φ es ES.toList ∧ ∀ e ∈ ES.toList, e.born < clock) :
    HRel lim (φ.add H.next ⟨w.heap.size, 0, n, sz⟩) (H.alloc o) (w.alloc O) ∧ Ext lim φ w (φ.add H.next ⟨w.heap.size, 0, n, sz⟩) (w.alloc O) := by
  have hmono := Phi.add_mono (φ := φ) ⟨w.heap.size, 0, n, sz⟩ (h.dom H.next (Nat.le_refl _))
  refine ⟨⟨?_, ?_, ?_, ?_, ?_, ?_⟩, ⟨hmono, ?_, ?_, ?_, rfl, rfl, rfl, ?_⟩⟩
  · show lim ≤ H.next + 1; have := h.low; omega
  · intro i hi
    have : H.next + 1 ≤ i := hi
    have e : i ≠ H.next := by omega
    simp only [Phi.add, e, if_false]
    exact h.dom i (by omega)
  · intro i p hp
    by_cases e : i = H.next
    · simp only [Phi.add, e, if_true, Option.some.injEq] at hp; subst hp; simp
    · simp only [Phi.add, e, if_false] at hp
      have := h.bound i p hp
      simp; omega
  · intro i sz' c hg
    by_cases e : i = H.next
    · subst e
      simp only [Heap.alloc, if_true, Option.some.injEq] at hg
      obtain ⟨A, el, rfl, h1, h2, h3, h4⟩ := hc _ _ hg
      refine ⟨_, A, el, (0, 0), Phi.add_same _ _ _, heap_alloc_new _ _, h1, by simpa using h3, fun _ => ⟨h2, rfl⟩, fun j x hj => ?_⟩
      obtain ⟨v, hv, hr⟩ := h4 j x hj
      exact ⟨v, by simpa using hv, hr.mono hmono⟩
    · simp only [Heap.alloc, e, if_false] at hg
      obtain ⟨p, A, el, fz, h1, h2, h3, h4, h5, h6⟩ := h.cells i _ _ hg
      refine ⟨p, A, el, fz, hmono _ _ h1, by rw [heap_alloc_old _ _ _ (h.bound _ _ h1)]; exact h2, h3, h4, h5, fun j x hj => ?_⟩
      obtain ⟨v, hv, hr⟩ := h6 j x hj
      exact ⟨v, hv, hr.mono hmono⟩
  · intro i es hg
    by_cases e : i = H.next
    · subst e
      simp only [Heap.alloc, if_true, Option.some.injEq] at hg
      obtain ⟨ES, clock, rfl, h1, h2⟩ := hm _ hg
      exact ⟨_, ES, clock, Phi.add_same _ _ _, heap_alloc_new _ _, h1.mono hmono, h2⟩
    · simp only [Heap.alloc, e, if_false] at hg
      obtain ⟨p, ES, clock, h1, h2, h3, h4⟩ := h.maps i _ hg
      exact ⟨p, ES, clock, hmono _ _ h1, by rw [heap_alloc_old _ _ _ (h.bound _ _ h1)]; exact h2, h3.mono hmono, h4⟩
  · intro i j p q hlj hi hj hp hq e
    by_cases e1 : i = H.next <;> by_cases e2 : j = H.next
    · rw [e1, e2]
    · simp only [Phi.add, e1, e2, if_true, if_false, Option.some.injEq] at hp hq; subst hp
      have := h.bound _ _ hq; simp only at e; omega
    · simp only [Phi.add, e1, e2, if_true, if_false, Option.some.injEq] at hp hq; subst hq
      have := h.bound _ _ hp; simp only at e; omega
    · simp only [Phi.add, e1, e2, if_false] at hp hq
      simp only [Heap.alloc, e1, e2, if_false] at hi hj
      exact h.inj i j p q hlj hi hj hp hq e
  · intro i p hp
    by_cases e : i = H.next
    · simp only [Phi.add, e, if_true, Option.some.injEq] at hp; subst hp
      exact .inr ⟨by rw [e]; exact h.low, .inl (Nat.le_refl _)⟩
    · simp only [Phi.add, e, if_false] at hp; exact .inl hp
  · simp
  · intro b hb _; exact heap_alloc_old _ _ _ hb
  · cases o with
    | cells sz' c => obtain ⟨A, el, rfl, _⟩ := hc sz' c rfl; exact frozen_alloc_cells w A el
    | map es => obtain ⟨ES, clock, rfl, _⟩ := hm es rfl; exact frozen_alloc_map w ES clock

theorem HRel.alloc_cells {φ : Phi} {H : Heap} {w : World} (h : HRel lim φ H w) (sz : Nat) (c : List C) (A : Array Value) (el : TypeId) (hA : CsRel lim φ c A.toList) :
    HRel lim (φ.add H.next ⟨w.heap.size, 0, A.size, sz⟩) (H.alloc (.cells sz c)) (w.alloc (.cells A el)) ∧ Ext lim φ w (φ.add H.next ⟨w.heap.size, 0, A.size, sz⟩) (w.alloc (.cells A el)) := by
  refine h.alloc _ _ _ _ (fun sz' c' e => ?_) (fun es e => by cases e)
  cases e
  refine ⟨A, el, rfl, rfl, rfl, by rw [hA.length]; simp, fun j x hj => ?_⟩
  obtain ⟨v, hv, hr⟩ := hA.get hj
  exact ⟨v, by simpa using hv, hr⟩

/-- a cell is written -/
theorem HRel.set {φ : Phi} {H : Heap} {w : World} {i sz : Nat} {c : List C} (h : HRel lim φ H w) (hg : H.get i = some (.cells sz c)) (hl : lim ≤ i) {o : Nat} (ho : o < c.length) {x : C} {v : Value}
    (hx : CRel lim φ x v) {p : Pl} (hp : φ i = some p) :
    HRel lim φ (H.put i (.cells sz (c.set o x))) (w.setCell ⟨p.blk, p.sh + o, none⟩ v) ∧ Ext lim φ w φ (w.setCell ⟨p.blk, p.sh + o, none⟩ v) ∧
      (w.cell? ⟨p.blk, p.sh + o, none⟩).isSome = true ∧ w.frozen? ⟨p.blk, p.sh + o, none⟩ = false := by
  obtain ⟨p', A, el, fz, h1, h2, h3, h4, h5, h6⟩ := h.cells i _ _ hg
  rw [hp] at h1; cases h1
  obtain ⟨hsz, rfl⟩ := h5 hl
  have hnew : (w.setCell ⟨p.blk, p.sh + o, none⟩ v).heap[p.blk]? = some (.cells (A.setIfInBounds (p.sh + o) v) el (0, 0)) := heap_setCell_same w p.blk (p.sh + o) A el v h2
  have hoth : ∀ b, b ≠ p.blk → (w.setCell ⟨p.blk, p.sh + o, none⟩ v).heap[b]? = w.heap[b]? := fun b hb => heap_setCell_other w _ b v hb
  refine ⟨⟨h.low, h.dom, fun j q hq => by simpa using h.bound j q hq, ?_, ?_, ?_⟩, ⟨fun _ _ hq => hq, fun _ _ hq => .inl hq, by simp, ?_, rfl, rfl, rfl, fun a => by simp⟩, ?_, ?_⟩
  · intro j sz' c' hj
    by_cases e : j = i
    · subst e
      simp only [Heap.put, if_true, Option.some.injEq, Obj.cells.injEq] at hj
      obtain ⟨rfl, rfl⟩ := hj
      refine ⟨p, _, el, (0, 0), hp, hnew, by simpa using h3, by simpa using h4, fun _ => ⟨hsz, rfl⟩, fun k y hk => ?_⟩
      rw [List.getElem?_set] at hk
      by_cases ek : o = k
      · subst ek
        rw [if_pos rfl, if_pos ho] at hk
        cases hk
        exact ⟨v, by rw [Array.getElem?_setIfInBounds]; simp; omega, hx⟩
      · rw [if_neg ek] at hk
        obtain ⟨u, hu, hr⟩ := h6 k y hk
        exact ⟨u, by rw [Array.getElem?_setIfInBounds, if_neg (by omega)]; exact hu, hr⟩
    · simp only [Heap.put, e, if_false] at hj
      obtain ⟨q, B, el', fz', g1, g2, g3, g4, g5, g6⟩ := h.cells j _ _ hj
      have hne : q.blk ≠ p.blk := fun eb => e (h.inj j i q p hl (by rw [hj]; simp) (by rw [hg]; simp) g1 hp eb)
      exact ⟨q, B, el', fz', g1, by rw [hoth _ hne]; exact g2, g3, g4, g5, g6⟩
  · intro j es hj
    by_cases e : j = i
    · subst e; simp [Heap.put] at hj
    · simp only [Heap.put, e, if_false] at hj
      obtain ⟨q, ES, clock, g1, g2, g3⟩ := h.maps j _ hj
      have hne : q.blk ≠ p.blk := fun eb => e (h.inj j i q p hl (by rw [hj]; simp) (by rw [hg]; simp) g1 hp eb)
      exact ⟨q, ES, clock, g1, by rw [hoth _ hne]; exact g2, g3⟩
  · intro a b q r hlb ha hb hq hr e
    refine h.inj a b q r hlb ?_ ?_ hq hr e
    · by_cases ea : a = i
      · rw [ea, hg]; simp
      · simpa [Heap.put, ea] using ha
    · by_cases eb : b = i
      · rw [eb, hg]; simp
      · simpa [Heap.put, eb] using hb
  · intro b hb hn
    exact hoth b fun e => hn i p hl hp e.symm
  · rw [cell_of_row w _ _ _ _ _ h2]
    simp; omega
  · exact frozen_of_row w _ _ _ _ h2

theorem Heap.put_put (H : Heap) (i : Nat) (a b : Obj) : (H.put i a).put i b = H.put i b := by
  simp only [Heap.put, Heap.mk.injEq, true_and]; funext j; by_cases e : j = i <;> simp [e]
theorem Heap.put_get (H : Heap) (i : Nat) (a : Obj) : (H.put i a).get i = some a := by simp [Heap.put]
theorem Heap.put_self (H : Heap) (i : Nat) (a : Obj) (h : H.get i = some a) : H.put i a = H := by
  cases H; simp only [Heap.put, Heap.mk.injEq, true_and]; funext j; by_cases e : j = i
  · subst e; simp only [if_true]; exact h.symm
  · simp [e]

/-- many cells are written -/
theorem HRel.sets {P : Program} {φ : Phi} {i sz : Nat} (hl : lim ≤ i) {p : Pl} (hp : φ i = some p) : ∀ (xs : List C) (vs : List Value) (c : List C) (H : Heap) (w : World) (o k : Nat) (a : Addr),
    HRel lim φ H w → H.get i = some (.cells sz c) → o + xs.length ≤ c.length → CsRel lim φ xs vs → a.spot = none → a.block = p.blk → a.off + k = p.sh + o →
    ∃ w', (storeCells a vs k).run P w = .ok () w' ∧ HRel lim φ (H.put i (.cells sz (splice c o xs))) w' ∧ Ext lim φ w φ w'
  | [], _, c, H, w, o, k, a, h, hg, ho, hx, hs, hb, hk => by
    cases hx
    exact ⟨w, rfl, by rw [splice, Heap.put_self _ _ _ hg]; exact h, .refl _ _⟩
  | x :: xs, _, c, H, w, o, k, a, h, hg, ho, hx, hs, hb, hk => by
    cases hx with
    | @cons _ v _ vs hv hvs =>
      have hlen : o < c.length := by simp at ho; omega
      obtain ⟨h1, h2, h3, h4⟩ := h.set hg hl hlen hv hp
      have hadd : a.add k = ⟨p.blk, p.sh + o, none⟩ := by
        obtain ⟨ab, ao, as⟩ := a
        simp only at hs hb hk
        subst hs hb
        rw [Addr.add_lit]
        simp [hk]
      obtain ⟨w', hw', h5, h6⟩ := HRel.sets hl hp xs vs (c.set o x) _ _ (o + 1) (k + 1) a h1 (Heap.put_get _ _ _) (by simp at ho ⊢; omega) hvs hs hb (by omega)
      refine ⟨w', ?_, by rw [splice]; rwa [Heap.put_put] at h5, h2.trans h6⟩
      obtain ⟨u, hu⟩ := Option.isSome_iff_exists.1 h3
      simp only [storeCells, Sem.run_bind]
      rw [hadd, run_store P w _ v .plain hv.one, hu]
      simp only [h4, Bool.false_eq_true, if_false, Result.andThen_ok]
      exact hw'

theorem HRel.st {P : Program} {φ : Phi} {H H' : Heap} {w : World} {i o : Nat} {xs : List C} {vs : List Value} (h : HRel lim φ H w) (hst : H.st lim i o xs = some H') (hx : CsRel lim φ xs vs) {p : Pl} (hp : φ i = some p) :
    ∃ w', (storeCells ⟨p.blk, p.sh + o, none⟩ vs).run P w = .ok () w' ∧ HRel lim φ H' w' ∧ Ext lim φ w φ w' := by
  unfold Heap.st at hst
  split at hst
  · rename_i sz c hg
    split at hst
    · rename_i hc
      cases hst
      exact HRel.sets hc.1 hp xs vs c H w o 0 _ h hg hc.2 hx rfl rfl rfl
    · cases hst
  · cases hst

/-- cells are read -/
theorem HRel.ld {φ : Phi} {H : Heap} {w : World} {i o : Nat} {x : C} (h : HRel lim φ H w) (hld : H.ld i o = some x) {p : Pl} (hp : φ i = some p) :
    ∃ v, w.cell? ⟨p.blk, p.sh + o, none⟩ = some v ∧ CRel lim φ x v := by
  unfold Heap.ld at hld
  split at hld
  · rename_i sz c hg
    obtain ⟨p', A, el, fz, h1, h2, h3, h4, h5, h6⟩ := h.cells i _ _ hg
    rw [hp] at h1; cases h1
    obtain ⟨v, hv, hr⟩ := h6 o x hld
    exact ⟨v, by rw [cell_of_row w _ _ _ _ _ h2]; exact hv, hr⟩
  · cases hld
theorem HRel.ldN {P : Program} {φ : Phi} {H : Heap} {w : World} {i o n : Nat} {xs : List C} (h : HRel lim φ H w) (hld : H.ldN i o n = some xs) {p : Pl} (hp : φ i = some p) :
    ∃ A : Array Value, (loadCells ⟨p.blk, p.sh + o, none⟩ n).run P w = .ok A w ∧ CsRel lim φ xs A.toList ∧ xs.length = n := by
  unfold Heap.ldN at hld
  split at hld
  · rename_i sz c hg
    split at hld
    · rename_i hn
      cases hld
      obtain ⟨p', A, el, fz, h1, h2, h3, h4, h5, h6⟩ := h.cells i _ _ hg
      rw [hp] at h1; cases h1
      have hcell : ∀ j, j < n → w.cell? ((⟨p.blk, p.sh + o, none⟩ : Addr).add j) = some (A.getD (p.sh + o + j) default) := by
        intro j hj
        rw [Addr.add_lit, cell_of_row w _ _ _ _ _ h2]
        have : p.sh + o + j < A.size := by omega
        simp [this]
      refine ⟨_, run_loadCells w _ n _ hcell, CsRel.of_get (by simp; omega) fun j x v hx hv => ?_, by simp; omega⟩
      have hj : j < n := by
        have := (List.getElem?_eq_some_iff.1 hx).1
        simp at this; omega
      rw [List.getElem?_take_of_lt hj, List.getElem?_drop] at hx
      obtain ⟨u, hu, hr⟩ := h6 _ _ hx
      simp [hj] at hv
      subst hv
      have e : p.sh + o + j = p.sh + (o + j) := by omega
      rw [e, hu]
      exact hr
    · cases hld
  · cases hld
end Go.Proofs.Ytnnjklkfcleleaa.Vm
