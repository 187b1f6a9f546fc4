/-
  THE MACHINE AND THE MODEL: a region without a draw.
-/
import Derived.Test.YtnnjklkfcleleaaVg
namespace Go.Proofs.Ytnnjklkfcleleaa.Vm
open Go
set_option linter.unusedVariables false
set_option linter.unusedSimpArgs false
variable {lim base : Nat} {P : Program}

/-! ### the frame's own blocks -/
theorem HRel.push {φ : Phi} {H : Heap} {w : World} (h : HRel lim φ H w) (O : Go.Obj) : HRel lim φ H (w.alloc O) := by
  refine ⟨h.low, h.dom, fun i p hp => by have := h.bound i p hp; simp; omega, fun i sz c hg => ?_, fun i es hg => ?_, h.inj⟩
  · obtain ⟨p, A, el, fz, h1, h2, h3⟩ := h.cells i sz c hg
    exact ⟨p, A, el, fz, h1, by rw [heap_alloc_old _ _ _ (h.bound _ _ h1)]; exact h2, h3⟩
  · obtain ⟨p, ES, clock, h1, h2, h3⟩ := h.maps i es hg
    exact ⟨p, ES, clock, h1, by rw [heap_alloc_old _ _ _ (h.bound _ _ h1)]; exact h2, h3⟩
theorem Ext.push (φ : Phi) (w : World) (A : Array Value) (t : TypeId) : Ext lim φ w φ (w.alloc (.cells A t)) :=
  ⟨fun _ _ h => h, fun _ _ h => .inl h, by simp, fun b hb _ => heap_alloc_old _ _ _ hb, rfl, rfl, rfl, frozen_alloc_cells w A t⟩

/-- one block that no object has is changed -/
theorem HRel.other {φ : Phi} {H : Heap} {w w' : World} {B : Nat} (h : HRel lim φ H w) (hB : ∀ j p, φ j = some p → p.blk ≠ B) (hs : w'.heap.size = w.heap.size) (ho : ∀ b, b ≠ B → w'.heap[b]? = w.heap[b]?) : HRel lim φ H w' := by
  refine ⟨h.low, h.dom, fun i p hp => by rw [hs]; exact h.bound i p hp, fun i sz c hg => ?_, fun i es hg => ?_, h.inj⟩
  · obtain ⟨p, A, el, fz, h1, h2, h3⟩ := h.cells i sz c hg
    exact ⟨p, A, el, fz, h1, by rw [ho _ (hB _ _ h1)]; exact h2, h3⟩
  · obtain ⟨p, ES, clock, h1, h2, h3⟩ := h.maps i es hg
    exact ⟨p, ES, clock, h1, by rw [ho _ (hB _ _ h1)]; exact h2, h3⟩

theorem loc_sets {φ : Phi} : ∀ (xs : List C) (vs : List Value) (cs : List C) (w : World) (b o k : Nat) (a : Addr), LocRel lim φ w b cs → o + xs.length ≤ cs.length → CsRel lim φ xs vs → a.spot = none → a.block = b → a.off + k = o →
    ∃ w', (storeCells a vs k).run P w = .ok () w' ∧ LocRel lim φ w' b (splice cs o xs) ∧ w'.heap.size = w.heap.size ∧ (∀ b', b' ≠ b → w'.heap[b']? = w.heap[b']?) ∧ w'.os = w.os ∧ w'.tape = w.tape ∧ w'.output = w.output ∧ ∀ x, w'.frozen? x = w.frozen? x
  | [], _, cs, w, b, o, k, a, h, ho, hx, _, _, _ => by cases hx; exact ⟨w, rfl, h, rfl, fun _ _ => rfl, rfl, rfl, rfl, fun _ => rfl⟩
  | x :: xs, _, cs, w, b, o, k, a, h, ho, hx, hs, hb, hk => by
    cases hx with
    | @cons _ v _ vs hv hvs =>
      simp only [List.length_cons] at ho
      obtain ⟨⟨A, el, h1, h2⟩, h3⟩ := h
      have hl := h2.length
      simp only [Array.length_toList] at hl
      have hadd : a.add k = ⟨b, o, none⟩ := by
        obtain ⟨ab, ao, as⟩ := a
        simp only at hs hb hk
        subst hs hb hk
        rw [Addr.add_lit]
      have hcell : w.cell? ⟨b, o, none⟩ = some (A[o]'(by omega)) := by
        rw [cell_of_row w _ _ _ _ _ h1]; simp
      have hfz : w.frozen? ⟨b, o, none⟩ = false := frozen_of_row w _ _ _ _ h1
      have hnew := heap_setCell_same w b o A el v h1
      have hoth : ∀ b', b' ≠ b → (w.setCell ⟨b, o, none⟩ v).heap[b']? = w.heap[b']? := fun b' hb' => heap_setCell_other w _ b' v hb'
      obtain ⟨w', g1, g2, g3, g4, g5, g6, g7, g8⟩ := loc_sets xs vs (cs.set o x) (w.setCell ⟨b, o, none⟩ v) b (o + 1) (k + 1) a
        ⟨⟨_, el, hnew, by rw [Array.toList_setIfInBounds]; exact h2.set hv o⟩, h3⟩ (by simp; omega) hvs hs hb (by omega)
      refine ⟨w', ?_, g2, by rw [g3]; simp, fun b' hb' => by rw [g4 b' hb', hoth b' hb'], g5, g6, g7, fun x => (g8 x).trans (by simp)⟩
      simp only [storeCells, Sem.run_bind]
      rw [hadd, run_store P w _ v .plain hv.one, hcell]
      simp only [hfz, Bool.false_eq_true, if_false, Result.andThen_ok]
      exact g1

/-! ### the comparison -/
def chkSkip : List Nat → Ops → Bool
  | _, .nil => true
  | D, .op d _ r => chkSkip (d.toList ++ D) r
  | D, .lbox _ p _ r => chkSkip (p :: D) r
  | D, .lnew p _ r => chkSkip (p :: D) r
  | D, .st _ _ _ _ r => chkSkip D r
  | D, .logic _ c inner _ d r => D.contains c && chkSkip D inner && chkSkip (d :: dsts inner ++ D) r
def plain : Ops → Bool
  | .nil => true
  | .op _ _ r => plain r
  | .lbox _ _ _ _ | .lnew _ _ _ | .st _ _ _ _ _ => false
  | .logic _ _ i _ _ r => plain i && plain r
def isBox (x : X) (o : Oper) : Bool := match o.op with
  | .box _ y => chkX x y
  | _ => false
def isNew (P : Program) (z : List C) (o : Oper) : Bool := match o.op with
  | .alloc t => zeroIs P t z
  | _ => false
def isSt (P : Program) (n : Nat) (a x : X) (o : Oper) : Bool := match o.op with
  | .store t b y => szIs P t n && chkX a b && chkX x y
  | _ => false
def isFalse : Operand → Bool
  | .const (.bool false) => true
  | _ => false
def isTrue : Operand → Bool
  | .const (.bool true) => true
  | _ => false
def isPick (and : Bool) (c : Nat) (keep : X) (o : Oper) : Bool := match o.op with
  | .pick x A B => chkX (.t c) x && (if and then chkX keep A && isFalse B else isTrue A && chkX keep B)
  | _ => false
theorem isFalse_eq {x : Operand} (h : isFalse x = true) : x = .const (.bool false) := by
  unfold isFalse at h; split at h
  · rfl
  · cases h
theorem isTrue_eq {x : Operand} (h : isTrue x = true) : x = .const (.bool true) := by
  unfold isTrue at h; split at h
  · rfl
  · cases h
abbrev Gd := Option (Nat × Bool)
/-- how many operations from index i on the list stands for -/
def chkOps (P : Program) (ops : Array Oper) : Gd → Ops → Nat → Option Nat
  | g, .nil, i => some 0
  | g, .op d rop r, i => match ops[i]? with
    | some o => if o.dst == d && o.guard == g && chkOp P rop o then (chkOps P ops g r (i + 1)).map (· + 1) else none
    | none => none
  | g, .lbox n p x r, i => match ops[i]? with
    | some o => if o.dst == some p && o.guard == g && isBox x o then (chkOps P ops g r (i + 1)).map (· + 1) else none
    | none => none
  | g, .lnew p z r, i => match ops[i]? with
    | some o => if o.dst == some p && o.guard == g && isNew P z o then (chkOps P ops g r (i + 1)).map (· + 1) else none
    | none => none
  | g, .st hp n a x r, i => match ops[i]? with
    | some o => if o.dst == none && o.guard == g && isSt P n a x o then (chkOps P ops g r (i + 1)).map (· + 1) else none
    | none => none
  | g, .logic and c inner keep d r, i => match ops[i]? with
    | some o0 => match o0.guard with
      | some (j, want) =>
        if want == and && (ops[j]?).bind (·.dst) == some c && !(dsts inner).contains c && chkSkip [] inner && plain inner then
          match chkOps P ops (some (j, want)) inner i with
          | some m => match ops[i + m]? with
            | some o => if o.dst == some d && o.guard == g && isPick and c keep o then (chkOps P ops g r (i + m + 1)).map (· + m + 1) else none
            | none => none
          | none => none
        else none
      | none => none
    | none => none

theorem kill_append : ∀ (xs ys : List Nat) (e : Env), Env.kill (xs ++ ys) e = Env.kill ys (Env.kill xs e)
  | [], _, _ => rfl
  | x :: xs, ys, e => kill_append xs ys (Env.put e x .poison)
theorem wpOps_do {ops : Array Oper} {Q : Exit → Act → World → Prop} {i : Nat} {rest : List Nat} {a : Act} {w : World} {o : Oper} (ho : ops[i]? = some o) (hw : Region.wanted o (yielded ops a.tmps) = true)
    (h : o.wp P a w (wpOps P ops Q rest) Q) : wpOps P ops Q (i :: rest) a w := by
  simp only [wpOps, ho, hw, if_true]; exact .inl h
theorem wpOps_skip {ops : Array Oper} {Q : Exit → Act → World → Prop} {i : Nat} {rest : List Nat} {a : Act} {w : World} {o : Oper} (ho : ops[i]? = some o) (hw : Region.wanted o (yielded ops a.tmps) = false)
    (h : wpOps P ops Q rest (a.put o.dst undef) w) : wpOps P ops Q (i :: rest) a w := by
  simp only [wpOps, ho, hw, Bool.false_eq_true, if_false]; exact h

def offAt (a : Act) (c : Nat) (want : Bool) : Prop := ∀ v, a.tmps[c]? = some v → v ≠ .bool want
theorem off_wanted {ops : Array Oper} {a : Act} {j c : Nat} {want : Bool} {o : Oper} (hg : o.guard = some (j, want)) (hj : (ops[j]?).bind (·.dst) = some c) (ho : offAt a c want) : Region.wanted o (yielded ops a.tmps) = false := by
  simp only [Region.wanted, hg, yielded, hj, Option.bind_some]
  cases hv : a.tmps[c]? with
  | none => rfl
  | some v =>
    have := ho v hv
    cases v <;> first | rfl | skip
    rename_i b
    cases b <;> cases want <;> first | rfl | exact absurd rfl this
theorem put_some (a : Act) (d : Nat) (v : Value) : (a.put (some d) v).tmps = a.tmps.setIfInBounds d v := rfl
theorem put_none (a : Act) (v : Value) : a.put none v = a := rfl
theorem put_defers (a : Act) (d : Option Nat) (v : Value) : (a.put d v).defers = a.defers := by cases d <;> rfl
theorem put_undef {a : Act} {d : Option Nat} {p : Nat} {v : Value} (h : (a.put d undef).tmps[p]? = some v) : v = undef ∨ a.tmps[p]? = some v := by
  cases d with
  | none => exact .inr h
  | some d =>
    rw [put_some, Array.getElem?_setIfInBounds] at h
    split at h
    · split at h
      · cases h; exact .inl rfl
      · cases h
    · exact .inr h
theorem put_other {a : Act} {d : Option Nat} {p : Nat} {v : Value} (h : p ∉ d.toList) : (a.put d v).tmps[p]? = a.tmps[p]? := by
  cases d with
  | none => rfl
  | some d =>
    rw [put_some, Array.getElem?_setIfInBounds, if_neg]
    intro e; subst e; simp at h

structure Skipped (ds : List Nat) (a a' : Act) : Prop where
  defers : a'.defers = a.defers
  other : ∀ (p : Nat), p ∉ ds → a'.tmps[p]? = a.tmps[p]?
  undef_ : ∀ (p : Nat) v, a'.tmps[p]? = some v → v = undef ∨ a.tmps[p]? = some v
  dead : ∀ (p : Nat), p ∈ ds → ∀ v, a'.tmps[p]? = some v → v = undef
theorem Skipped.one (a : Act) (d : Option Nat) : Skipped d.toList a (a.put d undef) :=
  ⟨put_defers _ _ _, fun p hp => put_other hp, fun p v h => put_undef h, fun p hp v hv => by
    cases d with
    | none => simp at hp
    | some d =>
      simp at hp; subst hp
      rw [put_some, Array.getElem?_setIfInBounds] at hv
      simp at hv; exact hv.2.symm⟩
theorem Skipped.append {xs ys : List Nat} {a b c : Act} (h : Skipped xs a b) (k : Skipped ys b c) : Skipped (xs ++ ys) a c := by
  refine ⟨k.defers.trans h.defers, fun p hp => ?_, fun p v hv => ?_, fun p hp v hv => ?_⟩
  · rw [List.mem_append, not_or] at hp
    rw [k.other p hp.2, h.other p hp.1]
  · rcases k.undef_ p v hv with e | hv
    · exact .inl e
    · exact h.undef_ p v hv
  · by_cases hy : p ∈ ys
    · exact k.dead p hy v hv
    · rw [k.other p hy] at hv
      exact h.dead p ((List.mem_append.1 hp).resolve_right hy) v hv
theorem Skipped.off {ds : List Nat} {a a' : Act} (h : Skipped ds a a') {c : Nat} {want : Bool} (ho : offAt a c want) : offAt a' c want := fun v hv => by
  rcases h.undef_ c v hv with rfl | hv
  · simp [undef]
  · exact ho v hv
theorem Skipped.keeps {ds D : List Nat} {a a' : Act} (h : Skipped ds a a') (hD : ∀ (p : Nat), p ∈ D → ∀ v, a.tmps[p]? = some v → v = undef) : ∀ (p : Nat), p ∈ ds ++ D → ∀ v, a'.tmps[p]? = some v → v = undef := fun p hp v hv => by
  by_cases hd : p ∈ ds
  · exact h.dead p hd v hv
  · rw [h.other p hd] at hv
    exact hD p ((List.mem_append.1 hp).resolve_left hd) v hv

theorem skip_one {ops : Array Oper} {Q : Exit → Act → World → Prop} {φ : Phi} {ψ : Nat → Nat} {w : World} {j c i : Nat} {want : Bool} {d : Option Nat} {a : Act} {e : Env} {o : Oper} {rest : List Nat}
    (hj : (ops[j]?).bind (·.dst) = some c) (ho : ops[i]? = some o) (hd : o.dst = d) (hg : o.guard = some (j, want)) (hoff : offAt a c want) (he : ERel lim base φ ψ e a.tmps w)
    (hK : ∀ a', ERel lim base φ ψ (Env.kill d.toList e) a'.tmps w → Skipped d.toList a a' → (∀ eo ψo, ERel lim base φ ψo eo a.tmps w → ERel lim base φ ψo (Env.kill d.toList eo) a'.tmps w) → wpOps P ops Q rest a' w) : wpOps P ops Q (i :: rest) a w := by
  refine wpOps_skip ho (off_wanted hg hj hoff) ?_
  rw [hd]
  have key : ∀ eo ψo, ERel lim base φ ψo eo a.tmps w → ERel lim base φ ψo (Env.kill d.toList eo) (a.put d undef).tmps w := by
    intro eo ψo hr
    cases d with
    | none => exact hr
    | some d => exact hr.put d (t := .poison) trivial
  exact hK _ (key _ _ he) (.one a d) key

theorem ops_skip {ops : Array Oper} {Q : Exit → Act → World → Prop} {φ : Phi} {ψ : Nat → Nat} {w : World} : ∀ (os : Ops) (j c : Nat) (want : Bool) (i n : Nat) (D : List Nat) (a : Act) (e : Env) (rest : List Nat),
    (ops[j]?).bind (·.dst) = some c → chkOps P ops (some (j, want)) os i = some n → chkSkip D os = true → offAt a c want → (∀ (p : Nat), p ∈ D → ∀ v, a.tmps[p]? = some v → v = undef) → ERel lim base φ ψ e a.tmps w →
    (∀ a', ERel lim base φ ψ (Env.kill (dsts os) e) a'.tmps w → Skipped (dsts os) a a' → (∀ eo ψo, ERel lim base φ ψo eo a.tmps w → ERel lim base φ ψo (Env.kill (dsts os) eo) a'.tmps w) → wpOps P ops Q rest a' w) → wpOps P ops Q (List.range' i n ++ rest) a w := by
  intro os
  induction os with
  | nil =>
    intro j c want i n D a e rest hj hc hs hoff hD he hK
    simp only [chkOps, Option.some.injEq] at hc; subst hc
    exact hK a he ⟨rfl, fun _ _ => rfl, fun p v h => .inr h, fun p hp => by simp [dsts] at hp⟩ (fun _ _ h => h)
  | op d rop r ih =>
    intro j c want i n D a e rest hj hc hs hoff hD he hK
    simp only [chkOps] at hc
    split at hc
    · rename_i o ho
      split at hc
      · rename_i hh
        simp only [Bool.and_eq_true, beq_iff_eq] at hh
        obtain ⟨m, hm, rfl⟩ := Option.map_eq_some_iff.1 hc
        rw [List.range'_succ, List.cons_append]
        refine skip_one hj ho hh.1.1 hh.1.2 hoff he fun a1 he1 hs1 hall1 => ?_
        refine ih j c want (i + 1) m _ a1 _ rest hj hm hs (hs1.off hoff) (hs1.keeps hD) he1 fun a2 he2 hs2 hall2 => ?_
        exact hK a2 (by simp only [dsts]; rw [kill_append]; exact he2) (hs1.append hs2) (fun eo ψo hr => by simp only [dsts]; rw [kill_append]; exact hall2 _ _ (hall1 _ _ hr))
      · cases hc
    · cases hc
  | lbox n' p x r ih =>
    intro j c want i n D a e rest hj hc hs hoff hD he hK
    simp only [chkOps] at hc
    split at hc
    · rename_i o ho
      split at hc
      · rename_i hh
        simp only [Bool.and_eq_true, beq_iff_eq] at hh
        obtain ⟨m, hm, rfl⟩ := Option.map_eq_some_iff.1 hc
        rw [List.range'_succ, List.cons_append]
        refine skip_one hj ho hh.1.1 hh.1.2 hoff he fun a1 he1 hs1 hall1 => ?_
        refine ih j c want (i + 1) m _ a1 _ rest hj hm hs (hs1.off hoff) (hs1.keeps hD) he1 fun a2 he2 hs2 hall2 => ?_
        exact hK a2 he2 (hs1.append hs2) (fun eo ψo hr => hall2 _ _ (hall1 _ _ hr))
      · cases hc
    · cases hc
  | lnew p z r ih =>
    intro j c want i n D a e rest hj hc hs hoff hD he hK
    simp only [chkOps] at hc
    split at hc
    · rename_i o ho
      split at hc
      · rename_i hh
        simp only [Bool.and_eq_true, beq_iff_eq] at hh
        obtain ⟨m, hm, rfl⟩ := Option.map_eq_some_iff.1 hc
        rw [List.range'_succ, List.cons_append]
        refine skip_one hj ho hh.1.1 hh.1.2 hoff he fun a1 he1 hs1 hall1 => ?_
        refine ih j c want (i + 1) m _ a1 _ rest hj hm hs (hs1.off hoff) (hs1.keeps hD) he1 fun a2 he2 hs2 hall2 => ?_
        exact hK a2 he2 (hs1.append hs2) (fun eo ψo hr => hall2 _ _ (hall1 _ _ hr))
      · cases hc
    · cases hc
  | st hp n' b x r ih =>
    intro j c want i n D a e rest hj hc hs hoff hD he hK
    simp only [chkOps] at hc
    split at hc
    · rename_i o ho
      split at hc
      · rename_i hh
        simp only [Bool.and_eq_true, beq_iff_eq] at hh
        obtain ⟨m, hm, rfl⟩ := Option.map_eq_some_iff.1 hc
        rw [List.range'_succ, List.cons_append]
        refine skip_one hj ho hh.1.1 hh.1.2 hoff he fun a1 he1 hs1 hall1 => ?_
        refine ih j c want (i + 1) m _ a1 _ rest hj hm hs (hs1.off hoff) (hs1.keeps hD) he1 fun a2 he2 hs2 hall2 => ?_
        exact hK a2 he2 (hs1.append hs2) (fun eo ψo hr => hall2 _ _ (hall1 _ _ hr))
      · cases hc
    · cases hc
  | logic and c2 inner keep d r ih1 ih2 =>
    intro j c want i n D a e rest hj hc hs hoff hD he hK
    simp only [chkOps] at hc
    split at hc
    · rename_i o0 ho0
      split at hc
      · rename_i j2 want2 hg2
        split at hc
        · rename_i hh
          simp only [Bool.and_eq_true, beq_iff_eq] at hh
          obtain ⟨⟨⟨⟨rfl, hj2⟩, hnot⟩, hskip⟩, hplain⟩ := hh
          split at hc
          · rename_i m1 hm1
            split at hc
            · rename_i o ho
              split at hc
              · rename_i hh2
                simp only [Bool.and_eq_true, beq_iff_eq] at hh2
                obtain ⟨m, hm, rfl⟩ := Option.map_eq_some_iff.1 hc
                simp only [chkSkip, Bool.and_eq_true, List.contains_eq_mem, decide_eq_true_eq] at hs
                obtain ⟨⟨hs1, hs2⟩, hs3⟩ := hs
                have hsplit : List.range' i (m + m1 + 1) ++ rest = List.range' i m1 ++ (i + m1) :: (List.range' (i + m1 + 1) m ++ rest) := by
                  rw [← List.cons_append, ← List.range'_succ, ← List.append_assoc, List.range'_append_1]
                  congr 2; omega
                rw [hsplit]
                have hoff2 : offAt a c2 want2 := fun v hv => by rw [hD c2 hs1 v hv]; simp [undef]
                refine ih1 j2 c2 want2 i m1 D a e _ hj2 hm1 hs2 hoff2 hD he fun a1 he1 hk1 hall1 => ?_
                refine skip_one hj ho hh2.1.1 hh2.1.2 (hk1.off hoff) he1 fun a2 he2 hk2 hall2 => ?_
                have hk12 := hk1.append hk2
                refine ih2 j c want (i + m1 + 1) m _ a2 _ rest hj hm hs3 (hk12.off hoff) (fun p hp v hv => ?_) he2 fun a3 he3 hk3 hall3 => ?_
                · refine hk12.keeps hD p ?_ v hv
                  simp only [Option.toList, List.mem_append, List.mem_cons, List.not_mem_nil, or_false] at hp ⊢
                  rcases hp with (rfl | hp) | hp
                  · exact .inl (.inr rfl)
                  · exact .inl (.inl hp)
                  · exact .inr hp
                · refine hK a3 ?_ ?_ (fun eo ψo hr => by simp only [dsts]; rw [kill_append]; exact hall3 _ _ (hall2 _ _ (hall1 _ _ hr)))
                  · simp only [dsts]; rw [kill_append]; exact he3
                  · have := hk12.append hk3
                    simp only [dsts]
                    simpa using this
              · cases hc
            · cases hc
          · cases hc
        · cases hc
      · cases hc
    · cases hc

/-! ### the frame's local variables -/
theorem purge_get {e : Env} {p q : Nat} {t : T} (h : (e.map (T.purge p))[q]? = some t) : ∃ u, e[q]? = some u ∧ (t = u ∨ t = .poison) ∧ ∀ r o, t = .laddr r o → r ≠ p := by
  rw [List.getElem?_map] at h
  cases hq : e[q]? with
  | none => rw [hq] at h; cases h
  | some u =>
    rw [hq] at h; simp only [Option.map_some, Option.some.injEq] at h; subst h
    refine ⟨u, rfl, ?_, fun r o hr => ?_⟩
    · rcases purge_cases p u with h | ⟨h, _⟩
      · exact .inl h
      · exact .inr h
    · cases u with
      | laddr q' o' =>
        simp only [T.purge] at hr
        split at hr
        · cases hr
        · rename_i hne; cases hr; exact hne
      | _ => cases hr
/-- a new local variable -/
theorem ERel.local_ {φ : Phi} {ψ : Nat → Nat} {e : Env} {ts : Array Value} {w : World} {H : Heap} (h : ERel lim base φ ψ e ts w) (hH : HRel lim φ H w) (hb : base ≤ w.heap.size) (p : Nat) {cs : List C} {A : Array Value} (hA : CsRel lim φ cs A.toList) (t : TypeId) :
    ERel lim base φ (fun q => if q = p then w.heap.size else ψ q) ((e.map (T.purge p)).set p (.loc cs)) (ts.setIfInBounds p (.pointer (some ⟨w.heap.size, 0, none⟩))) (w.alloc (.cells A t)) := by
  have hext := Ext.push (lim := lim) φ w A t
  have hnew : LocRel lim φ (w.alloc (.cells A t)) w.heap.size cs :=
    ⟨⟨A, t, heap_alloc_new _ _, hA⟩, fun j q hq e' => by have := hH.bound j q hq; omega⟩
  have hget : ∀ (q : Nat) t', ((e.map (T.purge p)).set p (.loc cs))[q]? = some t' → (q = p ∧ t' = .loc cs) ∨ (q ≠ p ∧ (e.map (T.purge p))[q]? = some t') := by
    intro q t' hq
    by_cases hqp : q = p
    · subst hqp
      have hlt := (List.getElem?_eq_some_iff.1 hq).1
      rw [List.getElem?_set_self (by simpa using hlt)] at hq
      cases hq; exact .inl ⟨rfl, rfl⟩
    · rw [List.getElem?_set_ne (Ne.symm hqp)] at hq
      exact .inr ⟨hqp, hq⟩
  have hold : ∀ (q : Nat) cs', q ≠ p → (e.map (T.purge p))[q]? = some (.loc cs') → e[q]? = some (.loc cs') ∧ ψ q < w.heap.size := by
    intro q cs' hqp hq
    obtain ⟨u, hu, hor, _⟩ := purge_get hq
    rcases hor with rfl | h'
    · obtain ⟨x, hx, hr⟩ := h.tmp q _ hu
      exact ⟨hu, hr.2.lt⟩
    · cases h'
  refine ⟨by simp [h.len], fun q t' hq => ?_, fun q r cs1 cs2 hq hr e' => ?_, fun q cs1 hq => ?_⟩
  · rcases hget q t' hq with ⟨rfl, rfl⟩ | ⟨hqp, hq'⟩
    · have hlt : q < ts.size := by
        have := (List.getElem?_eq_some_iff.1 hq).1
        rw [← h.len]; simpa using this
      refine ⟨.pointer (some ⟨w.heap.size, 0, none⟩), by simp [hlt], ?_⟩
      simp only [TRel, if_true]
      exact ⟨trivial, hnew⟩
    · obtain ⟨u, hu, hor, hla⟩ := purge_get hq'
      obtain ⟨x, hx, hr⟩ := h.tmp q u hu
      refine ⟨x, by rw [Array.getElem?_setIfInBounds, if_neg (Ne.symm hqp)]; exact hx, ?_⟩
      rcases hor with rfl | rfl
      · cases t' with
        | poison => trivial
        | val v => exact hr
        | loc cs' => exact ⟨by simp [hqp, hr.1], by simpa [hqp] using hr.2.ext hext⟩
        | laddr r o =>
          have hrp := hla r o rfl
          obtain ⟨h1, cs', h2⟩ := hr
          refine ⟨by simp [hrp, h1], cs', ?_⟩
          rw [List.getElem?_set_ne (Ne.symm hrp), List.getElem?_map, h2]; rfl
      · trivial
  · rcases hget q _ hq with ⟨rfl, _⟩ | ⟨hqp, hq'⟩ <;> rcases hget r _ hr with ⟨rfl, _⟩ | ⟨hrp, hr'⟩
    · rfl
    · have := (hold r cs2 hrp hr').2
      simp only [if_true, hrp, if_false] at e'; omega
    · have := (hold q cs1 hqp hq').2
      simp only [if_true, hqp, if_false] at e'; omega
    · simp only [hqp, hrp, if_false] at e'
      exact h.inj q r cs1 cs2 (hold q cs1 hqp hq').1 (hold r cs2 hrp hr').1 e'
  · rcases hget q _ hq with ⟨rfl, _⟩ | ⟨hqp, hq'⟩
    · simpa using hb
    · simp only [hqp, if_false]
      exact h.low q cs1 (hold q cs1 hqp hq').1
/-- a local variable is written -/
theorem ERel.write {φ : Phi} {ψ : Nat → Nat} {e : Env} {ts : Array Value} {w w' : World} (h : ERel lim base φ ψ e ts w) {p : Nat} {cs cs' : List C} (hp : e[p]? = some (.loc cs)) (hl : LocRel lim φ w' (ψ p) cs')
    (ho : ∀ b, b ≠ ψ p → w'.heap[b]? = w.heap[b]?) : ERel lim base φ ψ (e.set p (.loc cs')) ts w' := by
  have hget : ∀ (q : Nat) t', (e.set p (.loc cs'))[q]? = some t' → (q = p ∧ t' = .loc cs') ∨ (q ≠ p ∧ e[q]? = some t') := by
    intro q t' hq
    by_cases hqp : q = p
    · subst hqp
      have hlt := (List.getElem?_eq_some_iff.1 hq).1
      rw [List.getElem?_set_self (by simpa using hlt)] at hq
      cases hq; exact .inl ⟨rfl, rfl⟩
    · rw [List.getElem?_set_ne (Ne.symm hqp)] at hq
      exact .inr ⟨hqp, hq⟩
  have hloc : ∀ (q : Nat) cs1, (e.set p (.loc cs'))[q]? = some (.loc cs1) → ∃ cs2, e[q]? = some (.loc cs2) := by
    intro q cs1 hq
    rcases hget q _ hq with ⟨rfl, _⟩ | ⟨_, hq⟩
    · exact ⟨cs, hp⟩
    · exact ⟨cs1, hq⟩
  refine ⟨by simp [h.len], fun q t' hq => ?_, fun q r cs1 cs2 hq hr e' => ?_, fun q cs1 hq => ?_⟩
  · rcases hget q t' hq with ⟨rfl, rfl⟩ | ⟨hqp, hq'⟩
    · obtain ⟨x, hx, hr⟩ := h.tmp q _ hp
      exact ⟨x, hx, hr.1, hl⟩
    · obtain ⟨x, hx, hr⟩ := h.tmp q t' hq'
      refine ⟨x, hx, ?_⟩
      cases t' with
      | poison => trivial
      | val v => exact hr
      | loc cs1 =>
        refine ⟨hr.1, ?_⟩
        have hne : ψ q ≠ ψ p := fun e' => hqp (h.inj q p _ _ hq' hp e')
        obtain ⟨⟨A, el, h1, h2⟩, h3⟩ := hr.2
        exact ⟨⟨A, el, by rw [ho _ hne]; exact h1, h2⟩, h3⟩
      | laddr r o =>
        obtain ⟨h1, cs2, h2⟩ := hr
        refine ⟨h1, ?_⟩
        by_cases hrp : r = p
        · subst hrp
          exact ⟨cs', by rw [List.getElem?_set_self]; exact (List.getElem?_eq_some_iff.1 h2).1⟩
        · exact ⟨cs2, by rw [List.getElem?_set_ne (Ne.symm hrp)]; exact h2⟩
  · obtain ⟨c1, h1⟩ := hloc q cs1 hq
    obtain ⟨c2, h2⟩ := hloc r cs2 hr
    exact h.inj q r c1 c2 h1 h2 e'
  · obtain ⟨c1, h1⟩ := hloc q cs1 hq
    exact h.low q c1 h1

theorem Ext.write {φ0 φ : Phi} {w0 w w' : World} (h : Ext lim φ0 w0 φ w) {B : Nat} (hB : w0.heap.size ≤ B) (hs : w'.heap.size = w.heap.size) (ho : ∀ b, b ≠ B → w'.heap[b]? = w.heap[b]?) (h1 : w'.os = w.os) (h2 : w'.tape = w.tape) (h3 : w'.output = w.output) (h4 : ∀ x, w'.frozen? x = w.frozen? x) :
    Ext lim φ0 w0 φ w' :=
  ⟨h.mono, h.fresh, by rw [hs]; exact h.size, fun b hb hn => by rw [ho b (by omega)]; exact h.same b hb hn, h1.trans h.os, h2.trans h.tape, h3.trans h.output, fun x => (h4 x).trans (h.froz x)⟩

def gOK (ops : Array Oper) (g : Gd) (a : Act) (ds : List Nat) : Prop :=
  match g with
  | none => True
  | some (j, want) => ∃ c, (ops[j]?).bind (·.dst) = some c ∧ a.tmps[c]? = some (.bool want) ∧ c ∉ ds
theorem gOK.wanted {ops : Array Oper} {g : Gd} {a : Act} {ds : List Nat} (h : gOK ops g a ds) {o : Oper} (hg : o.guard = g) : Region.wanted o (yielded ops a.tmps) = true := by
  cases g with
  | none => simp [Region.wanted, hg]
  | some x =>
    obtain ⟨j, want⟩ := x
    obtain ⟨c, h1, h2, _⟩ := h
    simp [Region.wanted, hg, yielded, h1, h2]
theorem gOK.next {ops : Array Oper} {g : Gd} {a a' : Act} {xs ys : List Nat} (h : gOK ops g a (xs ++ ys)) (ho : ∀ (p : Nat), p ∉ xs → a'.tmps[p]? = a.tmps[p]?) : gOK ops g a' ys := by
  cases g with
  | none => trivial
  | some x =>
    obtain ⟨j, want⟩ := x
    obtain ⟨c, h1, h2, h3⟩ := h
    rw [List.mem_append, not_or] at h3
    exact ⟨c, h1, by rw [ho c h3.1]; exact h2, h3.2⟩

/-- a block that no object has, nor a local variable -/
def Priv (lim : Nat) (φ : Phi) (w : World) (e : Env) (ψ : Nat → Nat) (b : Nat) (cs : List C) : Prop := LocRel lim φ w b cs ∧ ∀ (p : Nat) c, e[p]? = some (.loc c) → ψ p ≠ b
theorem locs_put {e : Env} {d p : Nat} {t : T} {c : List C} (ht : ∀ c, t ≠ .loc c) (h : (e.put d t)[p]? = some (.loc c)) : e[p]? = some (.loc c) := by
  unfold Env.put at h
  have hpt : ∀ c, t.purge d ≠ .loc c := fun c hc => by
    rcases purge_cases d t with h1 | ⟨h1, _⟩
    · rw [h1] at hc; exact ht c hc
    · rw [h1] at hc; cases hc
  split at h
  · rw [List.getElem?_set] at h
    split at h
    · split at h
      · exact absurd (Option.some.inj h) (hpt _)
      · cases h
    · rw [List.getElem?_map] at h
      obtain ⟨u, hu, h2⟩ := Option.map_eq_some_iff.1 h
      rcases purge_cases d u with h1 | ⟨h1, _⟩
      · rw [h1] at h2; rw [hu, h2]
      · rw [h1] at h2; cases h2
  · rw [List.getElem?_set] at h
    split at h
    · split at h
      · exact absurd (Option.some.inj h) (hpt _)
      · cases h
    · exact h
theorem locs_kill : ∀ {ds : List Nat} {e : Env} {p : Nat} {c : List C}, (Env.kill ds e)[p]? = some (.loc c) → e[p]? = some (.loc c)
  | [], _, _, _, h => h
  | d :: ds, _, _, _, h => locs_put (fun _ h => by cases h) (locs_kill (ds := ds) h)
theorem locs_new {e : Env} {d p : Nat} {xs c : List C} (h : ((e.map (T.purge d)).set d (.loc xs))[p]? = some (.loc c)) : p = d ∨ e[p]? = some (.loc c) := by
  rw [List.getElem?_set] at h
  split at h
  · rename_i hd; exact .inl hd.symm
  · right
    rw [List.getElem?_map] at h
    obtain ⟨u, hu, h2⟩ := Option.map_eq_some_iff.1 h
    rcases purge_cases d u with h1 | ⟨h1, _⟩
    · rw [h1] at h2; rw [hu, h2]
    · rw [h1] at h2; cases h2
/-- what a list of operations leaves -/
structure Left (lim base : Nat) (φ0 : Phi) (w0 : World) (ds : List Nat) (pl : Bool) (e : Env) (ψ : Nat → Nat) (φ : Phi) (w : World) (a : Act) (e' : Env) (H' : Heap) (φ' : Phi) (ψ' : Nat → Nat) (a' : Act) (w' : World) : Prop where
  env : ERel lim base φ' ψ' e' a'.tmps w'
  heap : HRel lim φ' H' w'
  ext : Ext lim φ0 w0 φ' w'
  defers : a'.defers = a.defers
  other : ∀ (p : Nat), p ∉ ds → a'.tmps[p]? = a.tmps[p]?
  priv : ∀ b cs, Priv lim φ w e ψ b cs → Priv lim φ' w' e' ψ' b cs
  old : pl = true → ∀ eo ψo, ERel lim base φ ψo eo a.tmps w → ERel lim base φ' ψo (Env.kill ds eo) a'.tmps w'

theorem Left.before {φ0 : Phi} {w0 : World} {xs ys : List Nat} {pl pl2 : Bool} {e e1 : Env} {ψ ψ1 ψ' : Nat → Nat} {φ φ1 : Phi} {w w1 : World} {a a1 : Act} {e' : Env} {H' : Heap} {φ' : Phi} {a' : Act} {w' : World}
    (h : Left lim base φ0 w0 ys pl2 e1 ψ1 φ1 w1 a1 e' H' φ' ψ' a' w') (hpv : ∀ b cs, Priv lim φ w e ψ b cs → Priv lim φ1 w1 e1 ψ1 b cs) (hd : a1.defers = a.defers) (ho : ∀ (p : Nat), p ∉ xs → a1.tmps[p]? = a.tmps[p]?)
    (he : pl = true → pl2 = true ∧ ∀ eo ψo, ERel lim base φ ψo eo a.tmps w → ERel lim base φ1 ψo (Env.kill xs eo) a1.tmps w1) :
    Left lim base φ0 w0 (xs ++ ys) pl e ψ φ w a e' H' φ' ψ' a' w' :=
  ⟨h.env, h.heap, h.ext, h.defers.trans hd, fun p hp => by rw [List.mem_append, not_or] at hp; rw [h.other p hp.2, ho p hp.1], fun b cs hb => h.priv b cs (hpv b cs hb), fun hp eo ψo hr => by
    obtain ⟨h1, h2⟩ := he hp; rw [kill_append]; exact h.old h1 _ _ (h2 _ _ hr)⟩

theorem ERel.putO {φ : Phi} {ψ : Nat → Nat} {e : Env} {a : Act} {w : World} (h : ERel lim base φ ψ e a.tmps w) (d : Option Nat) {t : T} {x : Value} (ht : ORel lim φ ψ e t x) : ERel lim base φ ψ (e.putO d t) (a.put d x).tmps w := by
  cases d with
  | none => exact h
  | some d => exact h.put d ht

section main
variable {call : CallT} (hcall : CallOK lim P call) {ops : Array Oper} {Q : Exit → Act → World → Prop} {φ0 : Phi} {w0 : World}
include hcall
set_option maxHeartbeats 1000000 in
theorem ops_sound : ∀ (os : Ops) {R : Type} (K : Env → Heap → Option R) (r : R) (g : Gd) (i n : Nat) (a : Act) (e : Env) (H : Heap) (φ : Phi) (ψ : Nat → Nat) (w : World) (rest : List Nat),
    chkOps P ops g os i = some n → gOK ops g a (dsts os) → runOps lim call os e H K = some r → ERel lim w0.heap.size φ ψ e a.tmps w → HRel lim φ H w → Ext lim φ0 w0 φ w →
    (∀ e' H' φ' ψ' a' w', K e' H' = some r → Left lim w0.heap.size φ0 w0 (dsts os) (plain os) e ψ φ w a e' H' φ' ψ' a' w' → wpOps P ops Q rest a' w') → wpOps P ops Q (List.range' i n ++ rest) a w := by
  intro os
  induction os with
  | nil =>
    intro R K r g i n a e H φ ψ w rest hc hg h he hH hx hK
    simp only [chkOps, Option.some.injEq] at hc; subst hc
    exact hK _ _ _ _ _ _ h ⟨he, hH, hx, rfl, fun _ _ => rfl, fun _ _ h => h, fun _ _ _ h => h⟩
  | op d rop os ih =>
    intro R K r g i n a e H φ ψ w rest hc hg h he hH hx hK
    simp only [chkOps] at hc
    split at hc
    · rename_i o hoi
      split at hc
      · rename_i hh
        simp only [Bool.and_eq_true, beq_iff_eq] at hh
        obtain ⟨⟨hd, hgd⟩, hop⟩ := hh
        obtain ⟨m, hm, rfl⟩ := Option.map_eq_some_iff.1 hc
        rw [List.range'_succ, List.cons_append]
        refine wpOps_do hoi (hg.wanted hgd) ?_
        simp only [runOps] at h
        refine op_sound hcall hop he hH h fun t H' φ' w' v hK' hH' hx' hv => ?_
        rw [hd]
        have hother : ∀ (p : Nat), p ∉ d.toList → (a.put d v).tmps[p]? = a.tmps[p]? := fun p hp => put_other hp
        refine ih K r g (i + 1) m (a.put d v) (e.putO d t) H' φ' ψ w' rest hm (hg.next (xs := d.toList) (by simpa [dsts] using hother)) hK' ((he.ext hx').putO d hv) hH' (hx.trans hx') (fun e2 H2 φ2 ψ2 a2 w2 hk hl => ?_)
        exact hK _ _ _ _ _ _ hk (hl.before (xs := d.toList) (fun b cs hb => ⟨hb.1.ext hx', fun p c hp => hb.2 p c (by
          cases d with
          | none => exact hp
          | some d => exact locs_put (fun c hc => by subst hc; exact hv) hp)⟩) (put_defers _ _ _) hother (fun hp => ⟨by simpa [plain] using hp, fun eo ψo hr => by
          have := hr.ext hx'
          cases d with
          | none => exact this
          | some d => exact this.put d (t := .poison) trivial⟩))
      · cases hc
    · cases hc
  | lbox n' p x os ih =>
    intro R K r g i n a e H φ ψ w rest hc hg h he hH hx hK
    simp only [chkOps] at hc
    split at hc
    · rename_i o hoi
      split at hc
      · rename_i hh
        simp only [Bool.and_eq_true, beq_iff_eq] at hh
        obtain ⟨⟨hd, hgd⟩, hop⟩ := hh
        obtain ⟨m, hm, rfl⟩ := Option.map_eq_some_iff.1 hc
        rw [List.range'_succ, List.cons_append]
        refine wpOps_do hoi (hg.wanted hgd) ?_
        simp only [runOps] at h
        obtain ⟨v, hv, h⟩ := Option.bind_eq_some_iff.1 h
        obtain ⟨xs, hxs, h⟩ := Option.bind_eq_some_iff.1 h
        split at h
        · unfold isBox at hop
          split at hop
          · rename_i t y hbx
            have hr := (ev_rel he hop hv).cells hxs
            refine wp_of_run (v := .pointer (some ⟨w.heap.size, 0, none⟩)) (w' := w.alloc (.cells (a.eval y).cells t)) (by simp [execOp, hbx, Instr.box, newVar, newRow]) ?_
            rw [hd]
            have hother : ∀ (q : Nat), q ∉ [p] → (a.put (some p) (.pointer (some ⟨w.heap.size, 0, none⟩))).tmps[q]? = a.tmps[q]? := fun q hq => put_other (d := some p) (by simpa using hq)
            have hnew := he.local_ hH hx.size p hr t
            refine ih K r g (i + 1) m (a.put (some p) (.pointer (some ⟨w.heap.size, 0, none⟩))) _ H φ _ _ rest hm (hg.next (xs := [p]) (by simpa [dsts] using hother)) h hnew (hH.push _) (hx.trans (Ext.push φ w _ _)) (fun e2 H2 φ2 ψ2 a2 w2 hk hl => ?_)
            exact hK _ _ _ _ _ _ hk (hl.before (xs := [p]) (fun b cs hb => ⟨hb.1.ext (Ext.push φ w _ _), fun q c hq => by
            have hlt := hb.1.lt
            rcases locs_new hq with rfl | hq
            · simp only [if_true]; omega
            · by_cases hqp : q = p
              · simp only [hqp, if_true]; omega
              · simp only [hqp, if_false]; exact hb.2 q c hq⟩) (put_defers _ _ _) hother (fun hp => by simp [plain] at hp))
          · cases hop
        · cases h
      · cases hc
    · cases hc
  | lnew p z os ih =>
    intro R K r g i n a e H φ ψ w rest hc hg h he hH hx hK
    simp only [chkOps] at hc
    split at hc
    · rename_i o hoi
      split at hc
      · rename_i hh
        simp only [Bool.and_eq_true, beq_iff_eq] at hh
        obtain ⟨⟨hd, hgd⟩, hop⟩ := hh
        obtain ⟨m, hm, rfl⟩ := Option.map_eq_some_iff.1 hc
        rw [List.range'_succ, List.cons_append]
        refine wpOps_do hoi (hg.wanted hgd) ?_
        simp only [runOps] at h
        unfold isNew at hop
        split at hop
        · rename_i t hbx
          obtain ⟨ti, zv, hi, hz, hcs, hsz⟩ := zeroIs_eq hop
          refine wp_of_run (v := .pointer (some ⟨w.heap.size, 0, none⟩)) (w' := w.alloc (.cells zv.cells t)) (by simp [execOp, hbx, Instr.alloc, newVar, newRow, run_zero hi hz]) ?_
          rw [hd]
          have hother : ∀ (q : Nat), q ∉ [p] → (a.put (some p) (.pointer (some ⟨w.heap.size, 0, none⟩))).tmps[q]? = a.tmps[q]? := fun q hq => put_other (d := some p) (by simpa using hq)
          have hnew := he.local_ hH hx.size p (chkCs_rel hcs) t
          refine ih K r g (i + 1) m (a.put (some p) (.pointer (some ⟨w.heap.size, 0, none⟩))) _ H φ _ _ rest hm (hg.next (xs := [p]) (by simpa [dsts] using hother)) h hnew (hH.push _) (hx.trans (Ext.push φ w _ _)) (fun e2 H2 φ2 ψ2 a2 w2 hk hl => ?_)
          exact hK _ _ _ _ _ _ hk (hl.before (xs := [p]) (fun b cs hb => ⟨hb.1.ext (Ext.push φ w _ _), fun q c hq => by
            have hlt := hb.1.lt
            rcases locs_new hq with rfl | hq
            · simp only [if_true]; omega
            · by_cases hqp : q = p
              · simp only [hqp, if_true]; omega
              · simp only [hqp, if_false]; exact hb.2 q c hq⟩) (put_defers _ _ _) hother (fun hp => by simp [plain] at hp))
        · cases hop
      · cases hc
    · cases hc
  | st hp n' b x os ih =>
    intro R K r g i n a e H φ ψ w rest hc hg h he hH hx hK
    simp only [chkOps] at hc
    split at hc
    · rename_i o hoi
      split at hc
      · rename_i hh
        simp only [Bool.and_eq_true, beq_iff_eq] at hh
        obtain ⟨⟨hd, hgd⟩, hop⟩ := hh
        obtain ⟨m, hm, rfl⟩ := Option.map_eq_some_iff.1 hc
        rw [List.range'_succ, List.cons_append]
        refine wpOps_do hoi (hg.wanted hgd) ?_
        simp only [runOps] at h
        obtain ⟨v, hv, h⟩ := Option.bind_eq_some_iff.1 h
        obtain ⟨xs, hxs, h⟩ := Option.bind_eq_some_iff.1 h
        split at h
        · cases h
        · rename_i hlen
          simp only [ne_eq, Decidable.not_not] at hlen
          unfold isSt at hop
          split at hop
          · rename_i t b' y hst
            simp only [Bool.and_eq_true] at hop
            obtain ⟨⟨hsz, hcb⟩, hcx⟩ := hop
            have hr := (ev_rel he hcx hv).cells hxs
            have hl := hr.length
            have hfit : ¬ ((a.eval y).cells.size ≠ n') := by simp at hl ⊢; omega
            rcases placeK_some h with ⟨p, o', hpl, h⟩ | ⟨j, o', hpl, h⟩
            · obtain ⟨hav, cs, h1, h2⟩ := place_rel he hcb hpl
              split at h
              · cases h
              obtain ⟨cs', hcs, h⟩ := Option.bind_eq_some_iff.1 h
              have := locCells_eq hcs h1; subst this
              split at h
              · rename_i hle
                obtain ⟨w', g1, g2, g3, g4, g5, g6, g7, g8⟩ := loc_sets (P := P) xs (a.eval y).cells.toList cs' w (ψ p) o' 0 ⟨ψ p, o', none⟩ h2 (by omega) hr rfl rfl rfl
                refine wp_of_skip (w' := w') (by simp [execOp, hst, Instr.storeAt, hav, Instr.sureAddr, storeVar, run_size_is hsz, hfit, g1]) ?_
                rw [hd]
                refine ih K r g (i + 1) m a _ H φ ψ w' rest hm hg h (he.write h1 g2 g4) (hH.other (fun j q hq => h2.2 j q hq) g3 g4) (hx.write (he.low p _ h1) g3 g4 g5 g6 g7 g8) (fun e2 H2 φ2 ψ2 a2 w2 hk hl => ?_)
                exact hK _ _ _ _ _ _ hk (hl.before (xs := []) (fun b cs hb => ⟨⟨by
                  obtain ⟨⟨A, el, k1, k2⟩, k3⟩ := hb.1
                  exact ⟨A, el, by rw [g4 b (fun e' => hb.2 p _ h1 e'.symm)]; exact k1, k2⟩, hb.1.2⟩, fun q c hq => by
                  rw [List.getElem?_set] at hq
                  split at hq
                  · rename_i hpq; subst hpq; exact hb.2 _ _ h1
                  · exact hb.2 q c hq⟩) rfl (fun _ _ => rfl) (fun hp => by simp [plain] at hp))
              · cases h
            · obtain ⟨p, hp, hav⟩ := place_rel he hcb hpl
              obtain ⟨H', hst', h⟩ := Option.bind_eq_some_iff.1 h
              obtain ⟨w', g1, g2, g3⟩ := hH.st (P := P) hst' hr hp
              refine wp_of_skip (w' := w') (by simp [execOp, hst, Instr.storeAt, hav, Instr.sureAddr, storeVar, run_size_is hsz, hfit, g1]) ?_
              rw [hd]
              refine ih K r g (i + 1) m a _ H' φ ψ w' rest hm hg h (he.ext g3) g2 (hx.trans g3) (fun e2 H2 φ2 ψ2 a2 w2 hk hl => ?_)
              exact hK _ _ _ _ _ _ hk (hl.before (xs := []) (fun b cs hb => ⟨hb.1.ext g3, hb.2⟩) rfl (fun _ _ => rfl) (fun hp => by simp [plain] at hp))
          · cases hop
      · cases hc
    · cases hc
  | logic and c inner keep d os ih1 ih2 =>
    intro R K r g i n a e H φ ψ w rest hc hg h he hH hx hK
    simp only [chkOps] at hc
    split at hc
    · rename_i o0 ho0
      split at hc
      · rename_i j2 want2 hg2
        split at hc
        · rename_i hh
          simp only [Bool.and_eq_true, beq_iff_eq, Bool.not_eq_true', List.contains_eq_mem, decide_eq_false_iff_not] at hh
          obtain ⟨⟨⟨⟨rfl, hj2⟩, hnot⟩, hskip⟩, hpl⟩ := hh
          split at hc
          · rename_i m1 hm1
            split at hc
            · rename_i o hoi
              split at hc
              · rename_i hh2
                simp only [Bool.and_eq_true, beq_iff_eq] at hh2
                obtain ⟨⟨hd, hgd⟩, hpick⟩ := hh2
                obtain ⟨m, hm, rfl⟩ := Option.map_eq_some_iff.1 hc
                have hsplit : List.range' i (m + m1 + 1) ++ rest = List.range' i m1 ++ (i + m1) :: (List.range' (i + m1 + 1) m ++ rest) := by
                  rw [← List.cons_append, ← List.range'_succ, ← List.append_assoc, List.range'_append_1]
                  congr 2; omega
                rw [hsplit]
                simp only [runOps] at h
                obtain ⟨b, hb, h⟩ := Option.bind_eq_some_iff.1 h
                obtain ⟨⟨q, H1⟩, hq, h⟩ := Option.bind_eq_some_iff.1 h
                have hbt : a.tmps[c]? = some (.bool b) := by
                  have := evB_rel he (x := .t c) (y := .tmp c) (by simp [chkX]) hb
                  simp only [Act.eval] at this
                  cases hv : a.tmps[c]? with
                  | none => simp [hv, undef] at this
                  | some v => simp [hv] at this; rw [this]
                -- behind the group: the pick, then the rest
                have tail : ∀ (a1 : Act) (w1 : World) (φ1 : Phi), ERel lim w0.heap.size φ1 ψ (Env.kill (dsts inner) e) a1.tmps w1 → HRel lim φ1 H1 w1 → Ext lim φ0 w0 φ1 w1 → a1.defers = a.defers → (∀ (p : Nat), p ∉ dsts inner → a1.tmps[p]? = a.tmps[p]?) →
                    (∀ eo ψo, ERel lim w0.heap.size φ ψo eo a.tmps w → ERel lim w0.heap.size φ1 ψo (Env.kill (dsts inner) eo) a1.tmps w1) → (∀ b cs, Priv lim φ w e ψ b cs → LocRel lim φ1 w1 b cs) → (∀ y, (want2 = b → chkX keep y = true → a1.eval y = .bool q)) → (want2 ≠ b → q = b) →
                    wpOps P ops Q ((i + m1) :: (List.range' (i + m1 + 1) m ++ rest)) a1 w1 := by
                  intro a1 w1 φ1 he1 hH1 hx1 hd1 ho1 hold1 hpv1 hkeep hnk
                  have hg1 : gOK ops g a1 (d :: dsts os) := hg.next (xs := dsts inner) ho1
                  refine wpOps_do hoi (hg1.wanted hgd) ?_
                  have hct : a1.eval (.tmp c) = .bool b := by
                    have := ho1 c hnot
                    rw [hbt] at this
                    simp [Act.eval, this]
                  refine wp_of_run (v := .bool q) (w' := w1) ?_ ?_
                  · unfold isPick at hpick
                    split at hpick
                    · rename_i x A B hop
                      simp only [Bool.and_eq_true] at hpick
                      obtain ⟨hcx, hpick⟩ := hpick
                      have hx' : x = .tmp c := by cases x <;> simp [chkX] at hcx; rw [hcx]
                      subst hx'
                      cases want2 with
                      | true =>
                        simp only [if_true, Bool.and_eq_true] at hpick
                        have hB := isFalse_eq hpick.2
                        subst hB
                        cases b with
                        | true => simp [execOp, hop, hct, asBool, hkeep A rfl hpick.1]
                        | false =>
                          have hq0 : q = false := hnk (by simp)
                          have hev : a1.eval (.const (.bool false)) = .bool false := rfl
                          simp [execOp, hop, hct, asBool, hev, hq0]
                      | false =>
                        simp only [Bool.false_eq_true, if_false, Bool.and_eq_true] at hpick
                        have hA := isTrue_eq hpick.1
                        subst hA
                        cases b with
                        | false => simp [execOp, hop, hct, asBool, hkeep B rfl hpick.2]
                        | true =>
                          have hq0 : q = true := hnk (by simp)
                          have hev : a1.eval (.const (.bool true)) = .bool true := rfl
                          simp [execOp, hop, hct, asBool, hev, hq0]
                    · cases hpick
                  · rw [hd]
                    have hother : ∀ (p : Nat), p ∉ [d] → (a1.put (some d) (.bool q)).tmps[p]? = a1.tmps[p]? := fun p hp => put_other (d := some d) (by simpa using hp)
                    refine ih2 K r g (i + m1 + 1) m (a1.put (some d) (.bool q)) _ H1 φ1 ψ w1 rest hm (hg1.next (xs := [d]) hother) h (he1.put d (.c (.bool q))) hH1 hx1
                      (fun e2 H2 φ2 ψ2 a2 w2 hk hl => ?_)
                    have h1 : Left lim w0.heap.size φ0 w0 (dsts inner ++ [d] ++ dsts os) (plain (.logic want2 c inner keep d os)) e ψ φ w a e2 H2 φ2 ψ2 a2 w2 := by
                      refine hl.before (xs := dsts inner ++ [d]) (fun b cs hb => ⟨hpv1 b cs hb, fun q c hq => hb.2 q c (locs_kill (locs_put (fun c hc => by cases hc) hq))⟩) ((put_defers _ _ _).trans hd1) (fun p hp => ?_) (fun hp => ⟨?_, fun eo ψo hr => ?_⟩)
                      · rw [List.mem_append, not_or] at hp
                        rw [hother p hp.2, ho1 p hp.1]
                      · simp only [plain, Bool.and_eq_true] at hp; exact hp.2
                      · rw [kill_append]
                        exact (hold1 eo ψo hr).put d (t := .poison) trivial
                    exact hK _ _ _ _ _ _ hk (by simpa [dsts] using h1)
                by_cases hbw : b = want2
                · subst hbw
                  rw [if_pos (by simp)] at hq
                  refine ih1 _ _ (some (j2, b)) i m1 a e H φ ψ w _ hm1 ⟨c, hj2, hbt, hnot⟩ hq he hH hx (fun e1 H2 φ1 ψ1 a1 w1 hk hl => ?_)
                  obtain ⟨q', hq', hk⟩ := Option.bind_eq_some_iff.1 hk
                  simp only [Option.some.injEq, Prod.mk.injEq] at hk
                  obtain ⟨rfl, rfl⟩ := hk
                  exact tail a1 w1 φ1 (hl.old hpl _ _ he) hl.heap hl.ext hl.defers hl.other (hl.old hpl) (fun b cs hb => (hl.priv b cs hb).1) (fun y _ hy => evB_rel hl.env hy hq') (fun hne => absurd rfl hne)
                · rw [if_neg (by simpa using hbw)] at hq
                  simp only [Option.some.injEq, Prod.mk.injEq] at hq
                  obtain ⟨rfl, rfl⟩ := hq
                  have hoff : offAt a c want2 := fun v hv => by
                    rw [hbt] at hv; cases hv; simp; exact hbw
                  refine ops_skip inner j2 c want2 i m1 [] a e _ hj2 hm1 hskip hoff (fun p hp => by simp at hp) he fun a1 he1 hk1 hall => ?_
                  exact tail a1 w φ he1 hH hx hk1.defers hk1.other hall (fun b cs hb => hb.1) (fun y hy => absurd hy.symm hbw) (fun _ => rfl)
              · cases hc
            · cases hc
          · cases hc
        · cases hc
      · cases hc
    · cases hc
end main
end Go.Proofs.Ytnnjklkfcleleaa.Vm
