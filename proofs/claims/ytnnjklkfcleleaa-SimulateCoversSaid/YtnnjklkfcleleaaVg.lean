/-
  THE MACHINE AND THE MODEL: one operation is met.
-/
import Derived.Test.YtnnjklkfcleleaaVf
namespace Go.Proofs.Ytnnjklkfcleleaa.Vm
open Go
set_option linter.unusedVariables false
set_option linter.unusedSimpArgs false
variable {lim base : Nat} {P : Program}

theorem wp_of_run {o : Oper} {a : Act} {w w' : World} {v : Value} {next : Act → World → Prop} {Q : Exit → Act → World → Prop} (h : (execOp a.eval o).run P w = .ok (.value v) w') (hn : next (a.put o.dst v) w') : o.wp P a w next Q := by
  unfold Oper.wp; rw [h]; exact hn
theorem wp_of_skip {o : Oper} {a : Act} {w w' : World} {next : Act → World → Prop} {Q : Exit → Act → World → Prop} (h : (execOp a.eval o).run P w = .ok .skip w') (hn : next (a.put o.dst undef) w') : o.wp P a w next Q := by
  unfold Oper.wp; rw [h]; exact hn

/-- what is known of calls -/
def CallOK (lim : Nat) (P : Program) (call : CallT) : Prop :=
  ∀ (f : FuncId) (vs : List V) (H : Heap) (r : V) (H' : Heap), call f vs H = some (r, H') →
    (∃ fn c, P.funcs[f]? = some fn ∧ fn.body = some c ∧ (fn.name == "runtime.NumGoroutine") = false) ∧
    ∀ (φ : Phi) (w : World) (args : Array Value), HRel lim φ H w → VsRel lim φ vs args.toList →
      Calls P f args w fun e w' => ∃ v φ', e = .returned v ∧ VRel lim φ' r v ∧ HRel lim φ' H' w' ∧ Ext lim φ w φ' w'

section one
variable {φ : Phi} {ψ : Nat → Nat} {e : Env} {a : Act} {w : World} {H : Heap} {R : Type} {K : T → Heap → Option R} {r : R} {o : Oper}
  {next : Act → World → Prop} {Q : Exit → Act → World → Prop} {call : CallT}

theorem call_wp (hcall : CallOK lim P call) {f : FuncId} {vs : List V} {args : Array Value} {v : V} {H' : Heap} (hH : HRel lim φ H w) (hvs : VsRel lim φ vs args.toList) (hc : call f vs H = some (v, H')) (hK : K (.val v) H' = some r)
    (hrun : ∀ fn c, P.funcs[f]? = some fn → fn.body = some c → (fn.name == "runtime.NumGoroutine") = false → (execOp a.eval o).run P w = .ok (.enter f args) w)
    (hn : ∀ t H' φ' w' v, K t H' = some r → HRel lim φ' H' w' → Ext lim φ w φ' w' → ORel lim φ' ψ e t v → next (a.put o.dst v) w') : o.wp P a w next Q := by
  obtain ⟨⟨fn, c, h1, h2, h3⟩, hC⟩ := hcall f vs H v H' hc
  unfold Oper.wp
  rw [hrun fn c h1 h2 h3, Oper.upon_enter]
  refine (hC φ w args hH hvs).mono fun en w' ⟨x, φ', he, hr, hH', hx⟩ => ?_
  subst he
  exact hn _ _ _ _ _ hK hH' hx hr

theorem run_callFunc {f : FuncId} {fn : Func} {c : Code} {args : Array Value} (h1 : P.funcs[f]? = some fn) (h2 : fn.body = some c) (h3 : (fn.name == "runtime.NumGoroutine") = false) (w : World) :
    (callFunc f args).run P w = .ok (.enter f args) w := by
  simp only [callFunc, Sem.run_bind, run_program, Result.andThen_ok, h1, h3, h2]
  rfl

theorem chkX1 {x : X} {args : Array Operand} (h : chkXs [x] args.toList = true) : ∃ y, args = #[y] ∧ chkX x y = true := by
  obtain ⟨l⟩ := args
  rcases l with _ | ⟨y, _ | ⟨z, l⟩⟩ <;> simp [chkXs] at h
  exact ⟨y, rfl, h⟩
theorem chkX2 {x x' : X} {args : Array Operand} (h : chkXs [x, x'] args.toList = true) : ∃ y y', args = #[y, y'] ∧ chkX x y = true ∧ chkX x' y' = true := by
  obtain ⟨l⟩ := args
  rcases l with _ | ⟨y, _ | ⟨z, _ | ⟨u, l⟩⟩⟩ <;> simp [chkXs] at h
  exact ⟨y, z, rfl, h.1, h.2⟩
theorem sliceT_eq {t e : TypeId} (h : sliceT P t = some e) : P.underlying t = some (.slice e) := by
  unfold sliceT at h
  split at h
  · rename_i hh; cases h; exact hh
  · cases h
theorem mapT_eq {t e : TypeId} {kk : KK} (h : mapT P t kk = some e) : ∃ k d, P.underlying t = some (.map k e) ∧ P.underlying k = some d ∧ kk.fits d = true := by
  unfold mapT at h
  split at h
  · rename_i hh
    split at h
    · rename_i d hd
      split at h
      · rename_i hf; cases h; exact ⟨_, d, hh, hd, hf⟩
      · cases h
    · cases h
  · cases h
theorem zeroIs_eq {t : TypeId} {z : List C} (h : zeroIs P t z = true) : ∃ i zv, P.info? t = some i ∧ i.zero = some zv ∧ chkCs z zv.cells.toList = true ∧ zv.cells.size = i.size := by
  unfold zeroIs at h
  split at h
  · rename_i i hi
    split at h
    · rename_i v hv
      simp only [Bool.and_eq_true, beq_iff_eq] at h
      exact ⟨i, v, hi, hv, h.1, h.2⟩
    · cases h
  · cases h
theorem zeroV_eq {t : TypeId} {z : V} (h : zeroV P t z = true) : ∃ i zv, P.info? t = some i ∧ i.zero = some zv ∧ chkV z zv = true := by
  unfold zeroV at h
  split at h
  · rename_i i hi
    split at h
    · rename_i v hv; exact ⟨i, v, hi, hv, h⟩
    · cases h
  · cases h
theorem szIs_eq {t : TypeId} {n : Nat} (h : szIs P t n = true) : ∃ i, P.info? t = some i ∧ i.size = n := by
  unfold szIs at h
  split at h
  · rename_i i hi; exact ⟨i, hi, by simpa using h⟩
  · cases h
theorem fieldsOf_eq {t : TypeId} {fs : Array Field} (h : fieldsOf P t = some fs) : P.underlying t = some (.struct fs) := by
  unfold fieldsOf at h
  split at h
  · rename_i hh; cases h; exact hh
  · cases h
theorem nil_relIn (n : Nat) {nk : NK} {x : C} {xv yv : Value} (hx : CRel lim φ x xv) {b : Bool} (hb : isNil nk x = some b) (hy : nilOf nk yv = true) {t : TypeId} {d : TypeDesc} (ht : P.underlying t = some d) (hd : nk.fits d = true) (w : World) :
    (Op.equalIn (n + 1) t xv yv).run P w = .ok b w := by
  have hu := run_underlying ht w
  unfold Op.equalIn
  simp only [Sem.run_bind, hu, Result.andThen_ok]
  cases nk <;> cases d <;> simp [NK.fits] at hd <;> cases yv <;> simp [nilOf] at hy
  · rename_i a; cases a <;> simp [nilOf] at hy
    cases hx <;> simp [isNil] at hb <;> subst hb <;> rfl
  · rename_i a n c; cases a <;> cases n <;> cases c <;> simp [nilOf] at hy
    cases hx <;> simp [isNil] at hb <;> subst hb <;> rfl
  · rename_i a; cases a <;> simp [nilOf] at hy
    cases hx <;> simp [isNil] at hb <;> subst hb <;> rfl
  · cases hx <;> simp [isNil] at hb <;> subst hb <;> rfl
  · cases hx <;> simp [isNil] at hb <;> subst hb <;> rfl
theorem nil_rel {nk : NK} {x : C} {xv yv : Value} (hx : CRel lim φ x xv) {b : Bool} (hb : isNil nk x = some b) (hy : nilOf nk yv = true) {t : TypeId} {d : TypeDesc} (ht : P.underlying t = some d) (hd : nk.fits d = true) (w : World) :
    (Op.equal t xv yv).run P w = .ok b w := nil_relIn 9999 hx hb hy ht hd w
theorem nil_guard {nk : NK} {x : C} {xv yv : Value} (hx : CRel lim φ x xv) {b : Bool} (hb : isNil nk x = some b) (hy : nilOf nk yv = true) (op : BinOp) (t : TypeId) (x' : Operand) :
    eqGuard op t x' (.const yv) xv yv = pure () := by
  cases nk <;> cases yv <;> simp [nilOf] at hy <;> cases hx <;> simp [isNil] at hb <;> simp [go_sem]
theorem nil_bin {nk : NK} {x : C} {xv yv : Value} (hx : CRel lim φ x xv) {b : Bool} (hb : isNil nk x = some b) (hy : nilOf nk yv = true) {t : TypeId} (he : (Op.equal t xv yv).run P w = .ok b w) :
    (binOp .eql t xv yv).run P w = .ok (.bool b) w ∧ (binOp .neq t xv yv).run P w = .ok (.bool !b) w := by
  cases nk <;> cases yv <;> simp [nilOf] at hy <;> cases hx <;> simp [isNil] at hb <;> simp [binOp, he]

theorem evLo_rel (he : ERel lim base φ ψ e a.tmps w) {x : Option X} {y : Option Operand} (hc : chkO x y = true) {n : Int} (h : evLo e x = some n) : (y.map a.eval = none ∧ n = 0) ∨ ∃ k, y.map a.eval = some (.int k n) := by
  cases x <;> cases y <;> simp [chkO] at hc
  · simp only [evLo, Option.some.injEq] at h; subst h; exact .inl ⟨rfl, rfl⟩
  · simp only [evLo] at h
    obtain ⟨v, hv, h⟩ := Option.bind_eq_some_iff.1 h
    obtain ⟨k, hk⟩ := asIx_rel (evC_rel he hc hv) h
    exact .inr ⟨k, by simp [hk]⟩
theorem evHi_rel (he : ERel lim base φ ψ e a.tmps w) {x : Option X} {y : Option Operand} (hc : chkO x y = true) {n : Option Int} (h : evHi e x = some n) : (y.map a.eval = none ∧ n = none) ∨ ∃ k m, y.map a.eval = some (.int k m) ∧ n = some m := by
  cases x <;> cases y <;> simp [chkO] at hc
  · simp only [evHi, Option.some.injEq] at h; subst h; exact .inl ⟨rfl, rfl⟩
  · simp only [evHi] at h
    obtain ⟨m, hm, rfl⟩ := Option.map_eq_some_iff.1 h
    obtain ⟨v, hv, hm⟩ := Option.bind_eq_some_iff.1 hm
    obtain ⟨k, hk⟩ := asIx_rel (evC_rel he hc hv) hm
    exact .inr ⟨k, m, by simp [hk], rfl⟩
theorem subS_rel {s r : C} {sv : Value} (hs : CRel lim φ s sv) {lo : Int} {hi : Option Int} (h : s.subS lo hi = some r) {t : TypeId} (ht : P.underlying t = some .string)
    {l h' : Option Value} (hl : (l = none ∧ lo = 0) ∨ ∃ k, l = some (.int k lo)) (hh : (h' = none ∧ hi = none) ∨ ∃ k n, h' = some (.int k n) ∧ hi = some n) :
    ∃ v, (Instr.sliceAt t sv l h' none).run P w = .ok v w ∧ CRel lim φ r v := by
  cases hs <;> simp [C.subS] at h
  rename_i b
  obtain ⟨hb, rfl⟩ := h
  refine ⟨_, ?_, .str _⟩
  rcases hl with ⟨rfl, rfl⟩ | ⟨kl, rfl⟩ <;> rcases hh with ⟨rfl, rfl⟩ | ⟨kh, m, rfl, rfl⟩ <;> simp only [Option.getD] at hb ⊢
  · simp [Instr.sliceAt, Instr.slice, Instr.sliceBounds, run_underlying ht]
  · have : (0 ≤ m ∧ m ≤ (b.size : Int)) := by omega
    simp [Instr.sliceAt, Instr.slice, Instr.sliceBounds, Instr.sliceBound, asIntOf, run_underlying ht, this]
  · have : (0 ≤ lo ∧ lo ≤ (b.size : Int)) := by omega
    simp [Instr.sliceAt, Instr.slice, Instr.sliceBounds, Instr.sliceBound, asIntOf, run_underlying ht, this]
  · have h1 : (0 ≤ m ∧ m ≤ (b.size : Int)) := by omega
    have h2 : (0 ≤ lo ∧ lo ≤ max m 0) := by omega
    simp [Instr.sliceAt, Instr.slice, Instr.sliceBounds, Instr.sliceBound, asIntOf, run_underlying ht, h1, h2]

theorem fillC_length : ∀ (ps : List (Nat × Nat × X)) (z : List C) {cs : List C}, fillC e z ps = some cs → cs.length = z.length
  | [], z, cs, h => by simp only [fillC, Option.some.injEq] at h; rw [h]
  | (o, n, x) :: ps, z, cs, h => by
    simp only [fillC] at h
    obtain ⟨v, hv, h⟩ := Option.bind_eq_some_iff.1 h
    obtain ⟨xs, hxs, h⟩ := Option.bind_eq_some_iff.1 h
    split at h
    · rw [fillC_length ps _ h, splice_length]
    · cases h

theorem bin_int {k : IntKind} {x y : Int} {op : BinOp} {t u : TypeId} {x' y' : Operand} (ho : o.op = .binOp op t x' y' u) (hx : a.eval x' = .int k x) (hy : a.eval y' = .int k y) {v : Value}
    (hv : (binOp op t (.int k x) (.int k y)).run P w = .ok v w) : (execOp a.eval o).run P w = .ok (.value v) w := by
  simp [execOp, ho, hx, hy, eqGuard_at_int, hv]
theorem eq_gtr (a b : Int) : (decide (a > b)) = decide (b < a) := rfl

set_option maxHeartbeats 4000000 in
theorem op_sound (hcall : CallOK lim P call) {rop : ROp} (hc : chkOp P rop o = true) (he : ERel lim base φ ψ e a.tmps w) (hH : HRel lim φ H w) (h : evalOp lim call e H rop K = some r)
    (hn : ∀ t H' φ' w' v, K t H' = some r → HRel lim φ' H' w' → Ext lim φ w φ' w' → ORel lim φ' ψ e t v → next (a.put o.dst v) w') : o.wp P a w next Q := by
  have hsame : ∀ t v, K t H = some r → ORel lim φ ψ e t v → (execOp a.eval o).run P w = .ok (.value v) w → o.wp P a w next Q :=
    fun t v h1 h2 h3 => wp_of_run h3 (hn _ _ _ _ _ h1 hH (.refl _ _) h2)
  cases rop with
  | mov x =>
    simp only [evalOp] at h
    obtain ⟨v, hv, h⟩ := Option.bind_eq_some_iff.1 h
    simp only [chkOp] at hc
    split at hc
    · rename_i ho; exact hsame _ _ h (ev_rel he hc hv) (by simp [execOp, ho])
    · rename_i ho; exact hsame _ _ h (ev_rel he hc hv) (by simp [execOp, ho])
    · cases hc
  | box sz x =>
    simp only [evalOp] at h
    obtain ⟨v, hv, h⟩ := Option.bind_eq_some_iff.1 h
    obtain ⟨xs, hxs, h⟩ := Option.bind_eq_some_iff.1 h
    split at h
    · rename_i hl
      simp only [chkOp] at hc
      split at hc
      · rename_i t y ho
        obtain ⟨h1, h2⟩ := hH.alloc_cells sz xs (a.eval y).cells t ((ev_rel he hc hv).cells hxs)
        exact wp_of_run (v := .pointer (some ⟨w.heap.size, 0, none⟩)) (by simp [execOp, ho, Instr.box, newVar, newRow]) (hn _ _ _ _ _ h h1 h2 (.c (.ptr (p := ⟨w.heap.size, 0, _, sz⟩) (Phi.add_same _ _ _))))
      · cases hc
    · cases h
  | new z =>
    simp only [evalOp] at h
    simp only [chkOp] at hc
    split at hc
    · rename_i t ho
      obtain ⟨i, zv, hi, hz, hcs, hsz⟩ := zeroIs_eq hc
      obtain ⟨h1, h2⟩ := hH.alloc_cells z.length z zv.cells t (chkCs_rel hcs)
      exact wp_of_run (v := .pointer (some ⟨w.heap.size, 0, none⟩)) (by simp [execOp, ho, Instr.alloc, newVar, newRow, run_zero hi hz]) (hn _ _ _ _ _ h h1 h2 (.c (.ptr (p := ⟨w.heap.size, 0, _, z.length⟩) (Phi.add_same _ _ _))))
    · cases hc
  | build z ps =>
    simp only [evalOp] at h
    obtain ⟨cs, hcs, h⟩ := Option.bind_eq_some_iff.1 h
    simp only [chkOp] at hc
    split at hc
    · rename_i t qs ho
      simp only [Bool.and_eq_true] at hc
      obtain ⟨hz, hc⟩ := hc
      obtain ⟨i, zv, hi, hzv, hzc, hzs⟩ := zeroIs_eq hz
      split at hc
      · rename_i fs ht
        simp only [Bool.and_eq_true, Array.all_eq_true'] at hc
        obtain ⟨hfs, hp⟩ := hc
        obtain ⟨arr, ha, hr⟩ := fill_rel he _ ps qs.toList z zv.cells hp (chkCs_rel hzc) hcs
        have hm : (fs.mapM fun (f : Field) => (do pure (f.offset, ← sizeOf f.type) : Sem (Nat × Nat))).run P w = .ok (fs.map fun (f : Field) => (f.offset, ((P.info? f.type).map (·.size)).getD 0)) w := by
          refine run_mapM w _ _ fs fun f hf => ?_
          obtain ⟨j, hj⟩ := Option.isSome_iff_exists.1 (hfs f hf)
          simp [run_size hj, hj]
        have hpl : (fun (i : Nat) => (fs.map fun (f : Field) => (f.offset, ((P.info? f.type).map (·.size)).getD 0))[i]?) = fun (i : Nat) => (fs[i]?).bind fun (f : Field) => (P.info? f.type).map fun j => (f.offset, j.size) := by
          funext i
          rw [Array.getElem?_map]
          cases hfi : fs[i]? with
          | none => rfl
          | some f =>
            obtain ⟨j, hj⟩ := Option.isSome_iff_exists.1 (hfs f (Array.mem_of_getElem? hfi))
            simp [hj]
        refine hsame _ (.agg arr) h (.agg hr) ?_
        have hq : (qs.map fun (i, x) => (i, a.eval x)).toList = qs.toList.map fun (i, x) => (i, a.eval x) := by simp
        simp only [execOp, ho, Instr.build, Sem.run_bind, run_zero hi hzv, Result.andThen_ok, run_underlying ht, hm, hq]
        simp only [← hpl] at ha
        simp only [Sem.run_bind, ha, Sem.run_pure, Result.andThen_ok]
      · rename_i n el ht
        split at hc
        · rename_i j hj
          obtain ⟨arr, ha, hr⟩ := fill_rel he _ ps qs.toList z zv.cells hc (chkCs_rel hzc) hcs
          refine hsame _ (.agg arr) h (.agg hr) ?_
          have hq : (qs.map fun (i, x) => (i, a.eval x)).toList = qs.toList.map fun (i, x) => (i, a.eval x) := by simp
          simp only [execOp, ho, Instr.build, Sem.run_bind, run_zero hi hzv, Result.andThen_ok, run_underlying ht, run_size hj, hq, ha, Sem.run_pure]
        · cases hc
      · cases hc
    · cases hc
  | lit sz len z ps =>
    simp only [evalOp] at h
    obtain ⟨cs, hcs, h⟩ := Option.bind_eq_some_iff.1 h
    simp only [chkOp] at hc
    split at hc
    · rename_i t n qs ho
      simp only [Bool.and_eq_true, beq_iff_eq] at hc
      obtain ⟨rfl, hc⟩ := hc
      split at hc
      · rename_i el hel
        have ht := sliceT_eq hel
        split at hc
        · rename_i j hj
          simp only [Bool.and_eq_true, beq_iff_eq, decide_eq_true_eq] at hc
          obtain ⟨⟨⟨hjs, hle⟩, hz⟩, hp⟩ := hc
          split at hz
          · rename_i zv hzv
            obtain ⟨arr, ha, hr⟩ := fill_rel he _ ps qs.toList z _ hp (chkCs_rel hz) hcs
            obtain ⟨h1, h2⟩ := hH.alloc_cells sz cs arr el hr
            refine wp_of_run (v := .slice (some ⟨w.heap.size, 0, none⟩) n n) (w' := w.alloc (.cells arr el)) ?_ (hn _ _ _ _ _ h h1 h2 (.c (.slice (p := ⟨w.heap.size, 0, arr.size, sz⟩) (Phi.add_same _ _ _) (Nat.le_refl _) (.inr rfl) (fun _ => .inr ?_))))
            · have hq : (qs.map fun (i, x) => (i, a.eval x)).toList = qs.toList.map fun (i, x) => (i, a.eval x) := by simp
              have hnot : ¬ (16777216 < n * sz) := by omega
              subst hjs
              by_cases hz0 : n * j.size = 0
              · simp only [hz0, if_true, Array.range_zero', Array.map_empty] at ha
                simp [execOp, ho, Instr.buildSlice, run_underlying ht, run_size hj, hnot, hz0, hq, Array.range_zero', ha, newRow]
              · simp only [hz0, if_false] at ha
                simp [execOp, ho, Instr.buildSlice, run_underlying ht, run_size hj, run_zero hj hzv, hnot, hz0, hq, ha, newRow]
            · have hl1 := hr.length
              have hl2 := fillC_length ps z hcs
              have hl3 := (chkCs_rel (lim := lim) (φ := φ) hz).length
              simp at hl1 hl3 ⊢; omega
          · cases hz
        · cases hc
      · cases hc
    · cases hc
  | ld kd x =>
    simp only [evalOp] at h
    simp only [chkOp] at hc
    split at hc
    · rename_i t y ho
      simp only [Bool.and_eq_true] at hc
      rcases placeK_some h with ⟨p, o', hpl, h⟩ | ⟨i, o', hpl, h⟩
      · obtain ⟨hv, cs, h1, h2⟩ := place_rel he hc.2 hpl
        obtain ⟨cs', hcs, h⟩ := Option.bind_eq_some_iff.1 h
        obtain ⟨c, hcc, h⟩ := Option.bind_eq_some_iff.1 h
        have h := takeC_some h
        have := locCells_eq hcs h1; subst this
        obtain ⟨v, hv2, hr⟩ := h2.cell hcc
        exact hsame _ v h (.c hr) (by simp [execOp, ho, Instr.loadAt, hv, Instr.sureAddr, loadVar_one hc.1 hv2])
      · obtain ⟨p, hp, hv⟩ := place_rel he hc.2 hpl
        obtain ⟨c, hcc, h⟩ := Option.bind_eq_some_iff.1 h
        have h := takeC_some h
        obtain ⟨v, hv2, hr⟩ := hH.ld hcc hp
        exact hsame _ v h (.c hr) (by simp [execOp, ho, Instr.loadAt, hv, Instr.sureAddr, loadVar_one hc.1 hv2])
    · cases hc
  | lds kds x =>
    simp only [evalOp] at h
    simp only [chkOp] at hc
    split at hc
    · rename_i t y ho
      simp only [Bool.and_eq_true] at hc
      rcases placeK_some h with ⟨p, o', hpl, h⟩ | ⟨i, o', hpl, h⟩
      · obtain ⟨hv, cs, h1, h2⟩ := place_rel he hc.2 hpl
        obtain ⟨cs', hcs, h⟩ := Option.bind_eq_some_iff.1 h
        have := locCells_eq hcs h1; subst this
        split at h
        · rename_i hle
          obtain ⟨A, hA, hr⟩ := h2.cells (P := P) hle
          exact hsame _ (.agg A) h (.agg hr) (by simp [execOp, ho, Instr.loadAt, hv, Instr.sureAddr, loadVar_many hc.1.1 hc.1.2 hA])
        · cases h
      · obtain ⟨p, hp, hv⟩ := place_rel he hc.2 hpl
        obtain ⟨h1, xs, h2, h3, h4⟩ := Heap.lds_ldN _ _ _ h
        have hld : ∃ A : Array Value, (loadCells ⟨p.blk, p.sh + o', none⟩ kds.length).run P w = .ok A w ∧ CsRel lim φ xs A.toList := by
          rcases h1 with h0 | ⟨sz, c, hg, hle⟩
          · have : xs = [] := List.eq_nil_of_length_eq_zero (h3.trans h0)
            subst this
            exact ⟨#[], by simp [h0, loadCells, loadCellsFrom], .nil⟩
          · have hN : H.ldN i o' kds.length = some xs := by
              simp only [Heap.ldN, hg]; rw [if_pos hle]
              congr 1
              refine List.ext_getElem? fun j => ?_
              by_cases hj : j < kds.length
              · rw [List.getElem?_take_of_lt hj, List.getElem?_drop]
                have hjx : j < xs.length := by omega
                have := h4 j xs[j] (by simp [hjx])
                simp only [Heap.ld, hg] at this
                rw [this]; simp [hjx]
              · rw [List.getElem?_eq_none (by simp; omega), List.getElem?_eq_none (by omega)]
            obtain ⟨A, hA, hr, _⟩ := hH.ldN (P := P) hN hp
            exact ⟨A, hA, hr⟩
        obtain ⟨A, hA, hr⟩ := hld
        exact hsame _ (.agg A) h2 (.agg hr) (by simp [execOp, ho, Instr.loadAt, hv, Instr.sureAddr, loadVar_many hc.1.1 hc.1.2 hA])
    · cases hc
  | ldL kd x =>
    simp only [evalOp] at h
    simp only [chkOp] at hc
    split at hc
    · rename_i t y ho
      simp only [Bool.and_eq_true] at hc
      rcases placeK_some h with ⟨p, o', hpl, h⟩ | ⟨i, o', hpl, h⟩
      · obtain ⟨hv, cs, h1, h2⟩ := place_rel he hc.2 hpl
        obtain ⟨cs', hcs, h⟩ := Option.bind_eq_some_iff.1 h
        obtain ⟨c, hcc, h⟩ := Option.bind_eq_some_iff.1 h
        have h := takeC_some h
        have := locCells_eq hcs h1; subst this
        obtain ⟨v, hv2, hr⟩ := h2.cell hcc
        exact hsame _ v h (.c hr) (by simp [execOp, ho, Instr.loadAt, hv, Instr.sureAddr, loadVar_one hc.1 hv2])
      · cases h
    · cases hc
  | ldsL kds x =>
    simp only [evalOp] at h
    simp only [chkOp] at hc
    split at hc
    · rename_i t y ho
      simp only [Bool.and_eq_true] at hc
      rcases placeK_some h with ⟨p, o', hpl, h⟩ | ⟨i, o', hpl, h⟩
      · obtain ⟨hv, cs, h1, h2⟩ := place_rel he hc.2 hpl
        obtain ⟨cs', hcs, h⟩ := Option.bind_eq_some_iff.1 h
        have := locCells_eq hcs h1; subst this
        split at h
        · rename_i hle
          obtain ⟨A, hA, hr⟩ := h2.cells (P := P) hle
          exact hsame _ (.agg A) h (.agg hr) (by simp [execOp, ho, Instr.loadAt, hv, Instr.sureAddr, loadVar_many hc.1.1 hc.1.2 hA])
        · cases h
      · cases h
    · cases hc
  | ldN n x =>
    simp only [evalOp] at h
    simp only [chkOp] at hc
    split at hc
    · rename_i t y ho
      simp only [Bool.and_eq_true] at hc
      rcases placeK_some h with ⟨p, o', hpl, h⟩ | ⟨i, o', hpl, h⟩
      · obtain ⟨hv, cs, h1, h2⟩ := place_rel he hc.2 hpl
        obtain ⟨cs', hcs, h⟩ := Option.bind_eq_some_iff.1 h
        have := locCells_eq hcs h1; subst this
        split at h
        · rename_i hle
          obtain ⟨A, hA, hr⟩ := h2.cells (P := P) hle
          exact hsame _ (.agg A) h (.agg hr) (by simp [execOp, ho, Instr.loadAt, hv, Instr.sureAddr, loadVar_many hc.1.1 hc.1.2 hA])
        · cases h
      · obtain ⟨p, hp, hv⟩ := place_rel he hc.2 hpl
        obtain ⟨xs, hxs, h⟩ := Option.bind_eq_some_iff.1 h
        obtain ⟨A, hA, hr, _⟩ := hH.ldN (P := P) hxs hp
        exact hsame _ (.agg A) h (.agg hr) (by simp [execOp, ho, Instr.loadAt, hv, Instr.sureAddr, loadVar_many hc.1.1 hc.1.2 hA])
    · cases hc
  | nilck x =>
    simp only [evalOp] at h
    obtain ⟨c, hcc, h⟩ := Option.bind_eq_some_iff.1 h
    simp only [chkOp] at hc
    split at hc
    · rename_i y ho
      have hr := evC_rel he hc hcc
      split at h
      · rename_i i o'
        generalize hz : a.eval y = z at hr
        cases hr with
        | ptr hp => exact hsame _ _ h (.c (.ptr hp)) (by simp [execOp, ho, hz])
      · cases h
    · cases hc
  | ar op k x y =>
    simp only [evalOp] at h
    obtain ⟨n, hx, h⟩ := Option.bind_eq_some_iff.1 h
    obtain ⟨m, hy, h⟩ := Option.bind_eq_some_iff.1 h
    simp only [chkOp] at hc
    split at hc
    · rename_i op' t x' y' u ho
      simp only [Bool.and_eq_true, beq_iff_eq] at hc
      obtain ⟨⟨⟨rfl, h1⟩, h2⟩, h3⟩ := hc
      refine hsame _ (.int k (arith op k n m)) h (.c (.int _ _)) (bin_int ho (evI_rel he h2 hx) (evI_rel he h3 hy) ?_)
      cases op <;> simp [isArith] at h1 <;> simp [go_sem, Op.intArith, arith]
    · cases hc
  | cmp op k x y =>
    simp only [evalOp] at h
    obtain ⟨n, hx, h⟩ := Option.bind_eq_some_iff.1 h
    obtain ⟨m, hy, h⟩ := Option.bind_eq_some_iff.1 h
    simp only [chkOp] at hc
    split at hc
    · rename_i op' t x' y' u ho
      simp only [Bool.and_eq_true, beq_iff_eq] at hc
      obtain ⟨⟨⟨rfl, h1⟩, h2⟩, h3⟩ := hc
      refine hsame _ (.bool (cmpI op n m)) h (.c (.bool _)) (bin_int ho (evI_rel he h2 hx) (evI_rel he h3 hy) ?_)
      cases op <;> simp [isCmp] at h1 <;> simp [go_sem, cmpI] <;> rfl
    · cases hc
  | dv op k x y =>
    simp only [evalOp] at h
    obtain ⟨n, hx, h⟩ := Option.bind_eq_some_iff.1 h
    obtain ⟨m, hy, h⟩ := Option.bind_eq_some_iff.1 h
    split at h
    · cases h
    · rename_i hm
      simp only [chkOp] at hc
      split at hc
      · rename_i op' t x' y' u ho
        simp only [Bool.and_eq_true, beq_iff_eq] at hc
        obtain ⟨⟨⟨rfl, h1⟩, h2⟩, h3⟩ := hc
        refine hsame _ (.int k (divI op k n m)) h (.c (.int _ _)) (bin_int ho (evI_rel he h2 hx) (evI_rel he h3 hy) ?_)
        cases op <;> simp [isDiv] at h1 <;> simp [binOp, Op.intDiv, divI, hm]
      · cases hc
  | bit op k x y =>
    simp only [evalOp] at h
    obtain ⟨n, hx, h⟩ := Option.bind_eq_some_iff.1 h
    obtain ⟨m, hy, h⟩ := Option.bind_eq_some_iff.1 h
    simp only [chkOp] at hc
    split at hc
    · rename_i op' t x' y' u ho
      simp only [Bool.and_eq_true, beq_iff_eq] at hc
      obtain ⟨⟨⟨rfl, h1⟩, h2⟩, h3⟩ := hc
      refine hsame _ (.int k (bitI op k n m)) h (.c (.int _ _)) (bin_int ho (evI_rel he h2 hx) (evI_rel he h3 hy) ?_)
      cases op <;> simp [isBit] at h1 <;> simp [binOp, Op.intBits, bitI]
    · cases hc
  | sh op k j x y =>
    simp only [evalOp] at h
    obtain ⟨n, hx, h⟩ := Option.bind_eq_some_iff.1 h
    obtain ⟨m, hy, h⟩ := Option.bind_eq_some_iff.1 h
    split at h
    · cases h
    · rename_i hm
      simp only [chkOp] at hc
      split at hc
      · rename_i op' t x' y' u ho
        simp only [Bool.and_eq_true, beq_iff_eq] at hc
        obtain ⟨⟨⟨rfl, h1⟩, h2⟩, h3⟩ := hc
        refine hsame _ (.int k (shI op k n m)) h (.c (.int _ _)) ?_
        have hx' := evI_rel he h2 hx
        have hy' := evI_rel he h3 hy
        cases op <;> simp [isSh] at h1 <;> simp [execOp, ho, hx', hy', eqGuard_at_int, binOp, Op.shift, shI, hm]
      · cases hc
  | eqB ne x y =>
    simp only [evalOp] at h
    obtain ⟨n, hx, h⟩ := Option.bind_eq_some_iff.1 h
    obtain ⟨m, hy, h⟩ := Option.bind_eq_some_iff.1 h
    simp only [chkOp] at hc
    split at hc
    · rename_i op' t x' y' u ho
      simp only [Bool.and_eq_true, beq_iff_eq] at hc
      obtain ⟨⟨⟨h0, h1⟩, h2⟩, h3⟩ := hc
      have ht : P.underlying t = some .bool := by
        cases hd : P.underlying t with
        | none => rw [hd] at h1; cases h1
        | some d => rw [hd] at h1; cases d <;> simp at h1; rfl
      have hx' := evB_rel he h2 hx
      have hy' := evB_rel he h3 hy
      cases ne <;> simp at h0 <;> subst h0
      · exact hsame _ (.bool ((n == m) != false)) h (.c (.bool _)) (by simp [execOp, ho, hx', hy', eqGuard_at_bool, run_eql_bool w t _ _ ht])
      · exact hsame _ (.bool ((n == m) != true)) h (.c (.bool _)) (by simp [execOp, ho, hx', hy', eqGuard_at_bool, run_neq_bool w t _ _ ht])
    · cases hc
  | cmpS op x y =>
    simp only [evalOp] at h
    obtain ⟨cx, hcx, h⟩ := Option.bind_eq_some_iff.1 h
    obtain ⟨n, hx, h⟩ := Option.bind_eq_some_iff.1 h
    obtain ⟨cy, hcy, h⟩ := Option.bind_eq_some_iff.1 h
    obtain ⟨m, hy, h⟩ := Option.bind_eq_some_iff.1 h
    simp only [chkOp] at hc
    split at hc
    · rename_i op' t x' y' u ho
      simp only [Bool.and_eq_true, beq_iff_eq] at hc
      obtain ⟨⟨⟨rfl, h1⟩, h2⟩, h3⟩ := hc
      have hx' := asS_rel (evC_rel he h2 hcx) hx
      have hy' := asS_rel (evC_rel he h3 hcy) hy
      refine hsame _ (.bool (cmpStr op n m)) h (.c (.bool _)) ?_
      have hbq : (n.toList == m.toList) = decide (n.toList = m.toList) := by rw [Bool.eq_iff_iff]; simp
      cases op <;> simp [isCmp] at h1 <;> simp [execOp, ho, hx', hy', eqGuard_at_string, binOp, Op.stringOp, cmpStr, hbq]
    · cases hc
  | catS x y =>
    simp only [evalOp] at h
    obtain ⟨cx, hcx, h⟩ := Option.bind_eq_some_iff.1 h
    obtain ⟨n, hx, h⟩ := Option.bind_eq_some_iff.1 h
    obtain ⟨cy, hcy, h⟩ := Option.bind_eq_some_iff.1 h
    obtain ⟨m, hy, h⟩ := Option.bind_eq_some_iff.1 h
    split at h
    · rename_i hroom
      simp only [chkOp] at hc
      split at hc
      · rename_i op' t x' y' u ho
        simp only [Bool.and_eq_true, beq_iff_eq] at hc
        obtain ⟨⟨rfl, h2⟩, h3⟩ := hc
        have hx' := asS_rel (evC_rel he h2 hcx) hx
        have hy' := asS_rel (evC_rel he h3 hcy) hy
        refine hsame _ (.string (n ++ m)) h (.c (.str _)) ?_
        have hroom' : n.size + m.size ≤ 2 ^ 36 := hroom
        have hnot : ¬ (9223372036854775807 < ((n.size : Int) + (m.size : Int))) := by omega
        simp [execOp, ho, hx', hy', eqGuard_at_string, binOp, Op.stringOp, hnot]
      · cases hc
    · cases h
  | eqN nk ne x =>
    simp only [evalOp] at h
    obtain ⟨cx, hcx, h⟩ := Option.bind_eq_some_iff.1 h
    obtain ⟨b, hb, h⟩ := Option.bind_eq_some_iff.1 h
    simp only [chkOp] at hc
    split at hc
    · rename_i op' t x' y' u ho
      simp only [Bool.and_eq_true, beq_iff_eq] at hc
      obtain ⟨⟨⟨h0, h1⟩, h2⟩, h3⟩ := hc
      split at h1
      · rename_i d hd
        split at h3
        · rename_i yv
          have hr := evC_rel he h2 hcx
          have heq := nil_rel hr hb h3 hd h1 w
          have hg := fun op => nil_guard hr hb h3 op t x'
          obtain ⟨hb1, hb2⟩ := nil_bin hr hb h3 heq
          have hev : a.eval (.const yv) = yv := rfl
          cases ne <;> simp at h0 <;> subst h0
          · exact hsame _ (.bool (b != false)) h (.c (.bool _)) (by simp [execOp, ho, hev, hg, hb1])
          · exact hsame _ (.bool (b != true)) h (.c (.bool _)) (by simp [execOp, ho, hev, hg, hb2])
        · cases h3
      · cases h1
    · cases hc
  | not x =>
    simp only [evalOp] at h
    obtain ⟨b, hb, h⟩ := Option.bind_eq_some_iff.1 h
    simp only [chkOp] at hc
    split at hc
    · rename_i t y ho
      exact hsame _ (.bool !b) h (.c (.bool _)) (by simp [execOp, ho, evB_rel he hc hb, Op.unary])
    · cases hc
  | neg k x =>
    simp only [evalOp] at h
    obtain ⟨b, hb, h⟩ := Option.bind_eq_some_iff.1 h
    simp only [chkOp] at hc
    split at hc
    · rename_i t y ho
      exact hsame _ (.int k (k.wrap (0 - b))) h (.c (.int _ _)) (by simp [execOp, ho, evI_rel he hc hb, Op.unary, Op.intArith])
    · cases hc
  | conv j k x =>
    simp only [evalOp] at h
    obtain ⟨b, hb, h⟩ := Option.bind_eq_some_iff.1 h
    simp only [chkOp] at hc
    split at hc
    · rename_i s d y ho
      simp only [Bool.and_eq_true] at hc
      have hs : P.underlying s = some (.int j) := by
        have := hc.1.1; unfold isInt at this; split at this
        · rename_i hh; simp at this; rw [hh, this]
        · cases this
      have hd : P.underlying d = some (.int k) := by
        have := hc.1.2; unfold isInt at this; split at this
        · rename_i hh; simp at this; rw [hh, this]
        · cases this
      exact hsame _ (.int k (k.wrap b)) h (.c (.int _ _)) (by simp [execOp, ho, evI_rel he hc.2 hb, convert, run_underlying hs, run_underlying hd, Conv.intToInt])
    · cases hc
  | fld n x =>
    simp only [evalOp] at h
    simp only [chkOp] at hc
    split at hc
    · rename_i s y f ho
      simp only [Bool.and_eq_true] at hc
      obtain ⟨hcx, hc⟩ := hc
      split at hc
      · rename_i fs hfs
        have ht := fieldsOf_eq hfs
        split at hc
        · rename_i fd hfd
          simp only [Bool.and_eq_true, beq_iff_eq] at hc
          obtain ⟨hoff, hc⟩ := hc
          split at hc
          · rename_i i hi
            have hne : i.size ≠ 0 := by simpa using hc
            have hrun : ∀ b q, a.eval y = .pointer (some ⟨b, q, none⟩) → (execOp a.eval o).run P w = .ok (.value (.pointer (some ⟨b, q + n, none⟩))) w := fun b q hv => by
              simp [execOp, ho, Instr.fieldAt, hv, Instr.sureAddr, run_underlying ht, hfd, fieldPlace, run_size hi, hne, Addr.add_lit, hoff]
            rcases placeK_some h with ⟨p, q, hpl, h⟩ | ⟨i', q, hpl, h⟩
            · obtain ⟨hv, cs, h1, h2⟩ := place_rel he hcx hpl
              exact hsame _ _ h ⟨rfl, cs, h1⟩ (hrun _ _ hv)
            · obtain ⟨p, hp, hv⟩ := place_rel he hcx hpl
              have := hrun _ _ hv
              rw [show p.sh + q + n = p.sh + (q + n) by omega] at this
              exact hsame _ _ h (.c (.ptr hp)) this
          · cases hc
        · cases hc
      · cases hc
    · cases hc
  | fldC n x =>
    simp only [evalOp] at h
    obtain ⟨v, hv, h⟩ := Option.bind_eq_some_iff.1 h
    simp only [chkOp] at hc
    split at hc
    · rename_i s y f ho
      simp only [Bool.and_eq_true] at hc
      obtain ⟨hcx, hc⟩ := hc
      split at hc
      · rename_i fs hfs
        have ht := fieldsOf_eq hfs
        split at hc
        · rename_i fd hfd
          simp only [Bool.and_eq_true, beq_iff_eq] at hc
          obtain ⟨rfl, hc⟩ := hc
          have hr := ev_rel he hcx hv
          obtain ⟨c, hcc, hK⟩ := Option.bind_eq_some_iff.1 h
          cases v <;> simp [V.cell] at hcc
          generalize hz : a.eval y = z at hr
          cases hr with
          | agg hr =>
            obtain ⟨u, hu, hur⟩ := hr.get hcc
            simp only [Array.getElem?_toList] at hu
            exact hsame _ u hK (.c hur) (by simp [execOp, ho, Instr.field, hz, asAgg, run_underlying ht, hfd, part, run_isAgg_no hc, hu])
        · cases hc
      · cases hc
    · cases hc
  | fldA n m x =>
    simp only [evalOp] at h
    obtain ⟨v, hv, h⟩ := Option.bind_eq_some_iff.1 h
    simp only [chkOp] at hc
    split at hc
    · rename_i s y f ho
      simp only [Bool.and_eq_true] at hc
      obtain ⟨hcx, hc⟩ := hc
      split at hc
      · rename_i fs hfs
        have ht := fieldsOf_eq hfs
        split at hc
        · rename_i fd hfd
          simp only [Bool.and_eq_true, beq_iff_eq] at hc
          obtain ⟨⟨rfl, hag⟩, hsz⟩ := hc
          have hr := ev_rel he hcx hv
          obtain ⟨c, hcc, hK⟩ := Option.bind_eq_some_iff.1 h
          cases v <;> simp [V.part] at hcc
          obtain ⟨hle, rfl⟩ := hcc
          generalize hz : a.eval y = z at hr
          cases hr with
          | agg hr =>
            rename_i arr
            refine hsame _ (.agg (arr.extract fd.offset (fd.offset + m))) hK (.agg ?_) (by simp [execOp, ho, Instr.field, hz, asAgg, run_underlying ht, hfd, part, run_isAgg_yes hag, run_size_is hsz])
            have := (hr.drop fd.offset).take m
            simpa [Array.toList_extract, List.extract_eq_take_drop] using this
        · cases hc
      · cases hc
    · cases hc
  | idx sz x i =>
    simp only [evalOp] at h
    obtain ⟨s, hs, h⟩ := Option.bind_eq_some_iff.1 h
    obtain ⟨ci, hci, h⟩ := Option.bind_eq_some_iff.1 h
    obtain ⟨n, hn', h⟩ := Option.bind_eq_some_iff.1 h
    obtain ⟨⟨id, o'⟩, hel, h⟩ := Option.bind_eq_some_iff.1 h
    simp only at h
    simp only [chkOp] at hc
    split at hc
    · rename_i t y j ho
      simp only [Bool.and_eq_true] at hc
      obtain ⟨⟨h1, h2⟩, hc⟩ := hc
      split at hc
      · rename_i el hsl
        obtain ⟨k, hk⟩ := asIx_rel (evC_rel he h2 hci) hn'
        obtain ⟨v, hv, hr⟩ := elem_rel (P := P) (w := w) (k := k) (evC_rel he h1 hs) hel (sliceT_eq hsl) hc
        exact hsame _ v h (.c hr) (by simp [execOp, ho, hk, hv])
      · cases hc
    · cases hc
  | idxA n sz x i =>
    simp only [evalOp] at h
    obtain ⟨ci, hci, h⟩ := Option.bind_eq_some_iff.1 h
    obtain ⟨m, hm, hK⟩ := Option.bind_eq_some_iff.1 h
    clear h
    split at hK
    · rename_i hb
      simp only [chkOp] at hc
      split at hc
      · rename_i t y j ho
        simp only [Bool.and_eq_true] at hc
        obtain ⟨⟨h1, h2⟩, hc⟩ := hc
        split at hc
        · rename_i n' el ht
          simp only [Bool.and_eq_true, beq_iff_eq] at hc
          obtain ⟨hnn, hz⟩ := hc
          obtain ⟨k, hk⟩ := asIx_rel (evC_rel he h2 hci) hm
          have hrun : ∀ b q, a.eval y = .pointer (some ⟨b, q, none⟩) → (execOp a.eval o).run P w = .ok (.value (.pointer (some ⟨b, q + m.toNat * sz, none⟩))) w := fun b q hv => by
            simp [execOp, ho, hk, hv, Instr.indexAt, asIntOf, Instr.sureAddr, run_underlying ht, run_size_is hz, hb.1, hnn, hb.2, Addr.add_lit]
          rcases placeK_some hK with ⟨p, q, hpl, hK⟩ | ⟨i', q, hpl, hK⟩
          · obtain ⟨hv, cs, g1, g2⟩ := place_rel he h1 hpl
            exact hsame _ _ hK ⟨rfl, cs, g1⟩ (hrun _ _ hv)
          · obtain ⟨p, hp, hv⟩ := place_rel he h1 hpl
            have := hrun _ _ hv
            rw [show p.sh + q + m.toNat * sz = p.sh + (q + m.toNat * sz) by omega] at this
            exact hsame _ _ hK (.c (.ptr hp)) this
        · cases hc
      · cases hc
    · cases hK
  | idxS x i =>
    simp only [evalOp] at h
    obtain ⟨s, hs, h⟩ := Option.bind_eq_some_iff.1 h
    obtain ⟨b, hb, h⟩ := Option.bind_eq_some_iff.1 h
    obtain ⟨ci, hci, h⟩ := Option.bind_eq_some_iff.1 h
    obtain ⟨m, hm, h⟩ := Option.bind_eq_some_iff.1 h
    split at h
    · rename_i h0
      obtain ⟨u, hu, h⟩ := Option.bind_eq_some_iff.1 h
      simp only [chkOp] at hc
      split at hc
      · rename_i t y j ho
        simp only [Bool.and_eq_true] at hc
        obtain ⟨⟨h1, h2⟩, hc⟩ := hc
        have ht : P.underlying t = some .string := by
          cases hd : P.underlying t with
          | none => rw [hd] at hc; cases hc
          | some d => rw [hd] at hc; cases d <;> simp at hc; rfl
        obtain ⟨k, hk⟩ := asIx_rel (evC_rel he h2 hci) hm
        have hs' := asS_rel (evC_rel he h1 hs) hb
        refine hsame _ (.int .u8 u.toNat) h (.c (.int _ _)) ?_
        simp [execOp, ho, hk, hs', Instr.index, asIntOf, run_underlying ht, h0, hu]
      · cases hc
    · cases h
  | sub sz x lo hi =>
    simp only [evalOp] at h
    obtain ⟨s, hs, h⟩ := Option.bind_eq_some_iff.1 h
    obtain ⟨l, hl, h⟩ := Option.bind_eq_some_iff.1 h
    obtain ⟨u, hu, h⟩ := Option.bind_eq_some_iff.1 h
    obtain ⟨c, hcc, h⟩ := Option.bind_eq_some_iff.1 h
    simp only [chkOp] at hc
    split at hc
    · rename_i t y l' h' ho
      simp only [Bool.and_eq_true] at hc
      obtain ⟨⟨⟨h1, h2⟩, h3⟩, hc⟩ := hc
      split at hc
      · rename_i el hsl
        obtain ⟨v, hv, hr⟩ := sub_rel hH (evC_rel he h1 hs) hcc (sliceT_eq hsl) hc (evLo_rel he h2 hl) (evHi_rel he h3 hu)
        exact hsame _ v h (.c hr) (by simp [execOp, ho, hv])
      · cases hc
    · cases hc
  | subS x lo hi =>
    simp only [evalOp] at h
    obtain ⟨s, hs, h⟩ := Option.bind_eq_some_iff.1 h
    obtain ⟨l, hl, h⟩ := Option.bind_eq_some_iff.1 h
    obtain ⟨u, hu, h⟩ := Option.bind_eq_some_iff.1 h
    obtain ⟨c, hcc, h⟩ := Option.bind_eq_some_iff.1 h
    simp only [chkOp] at hc
    split at hc
    · rename_i t y l' h' ho
      simp only [Bool.and_eq_true] at hc
      obtain ⟨⟨⟨h1, h2⟩, h3⟩, hc⟩ := hc
      have ht : P.underlying t = some .string := by
        cases hd : P.underlying t with
        | none => rw [hd] at hc; cases hc
        | some d => rw [hd] at hc; cases d <;> simp at hc; rfl
      obtain ⟨v, hv, hr⟩ := subS_rel (w := w) (evC_rel he h1 hs) hcc ht (evLo_rel he h2 hl) (evHi_rel he h3 hu)
      exact hsame _ v h (.c hr) (by simp [execOp, ho, hv])
    · cases hc
  | len x =>
    simp only [evalOp] at h
    obtain ⟨s, hs, h⟩ := Option.bind_eq_some_iff.1 h
    obtain ⟨n, hn', h⟩ := Option.bind_eq_some_iff.1 h
    simp only [chkOp] at hc
    split at hc
    · rename_i args ats ho
      simp only [Bool.and_eq_true] at hc
      obtain ⟨y, rfl, h1⟩ := chkX1 hc.1
      have hc := hc.2
      split at hc
      · rename_i t hat
        obtain ⟨el, hel⟩ := Option.isSome_iff_exists.1 hc
        have ht := sliceT_eq hel
        have hr := evC_rel he h1 hs
        refine hsame _ (.int .i64 n) h (.c (.int _ _)) ?_
        generalize hz : a.eval y = z at hr
        cases hr <;> simp [C.len] at hn' <;> subst hn' <;> simp [execOp, ho, resolve, invoke, builtin, Builtin.len_, hat, hz, run_underlying ht, goInt]
      · cases hc
    · cases hc
  | lenS x =>
    simp only [evalOp] at h
    obtain ⟨s, hs, h⟩ := Option.bind_eq_some_iff.1 h
    obtain ⟨b, hb, h⟩ := Option.bind_eq_some_iff.1 h
    simp only [chkOp] at hc
    split at hc
    · rename_i args ats ho
      simp only [Bool.and_eq_true] at hc
      obtain ⟨y, rfl, h1⟩ := chkX1 hc.1
      have hc := hc.2
      split at hc
      · rename_i t hat
        have ht : P.underlying t = some .string := by
          cases hd : P.underlying t with
          | none => rw [hd] at hc; cases hc
          | some d => rw [hd] at hc; cases d <;> simp at hc; rfl
        have hr := asS_rel (evC_rel he h1 hs) hb
        refine hsame _ (.int .i64 b.size) h (.c (.int _ _)) ?_
        simp [execOp, ho, resolve, invoke, builtin, Builtin.len_, hat, hr, run_underlying ht, goInt]
      · cases hc
    · cases hc
  | lenM x =>
    simp only [evalOp] at h
    obtain ⟨s, hs, h⟩ := Option.bind_eq_some_iff.1 h
    obtain ⟨es, hes, h⟩ := Option.bind_eq_some_iff.1 h
    simp only [chkOp] at hc
    split at hc
    · rename_i args ats ho
      simp only [Bool.and_eq_true] at hc
      obtain ⟨y, rfl, h1⟩ := chkX1 hc.1
      have hc := hc.2
      split at hc
      · rename_i t hat
        obtain ⟨k, el, ht⟩ : ∃ k el, P.underlying t = some (.map k el) := by
          cases hd : P.underlying t with
          | none => rw [hd] at hc; cases hc
          | some d => rw [hd] at hc; cases d <;> simp at hc; exact ⟨_, _, rfl⟩
        refine hsame _ (.int .i64 es.length) h (.c (.int _ _)) ?_
        rcases hH.getMap (evC_rel he h1 hs) hes with ⟨hz, rfl⟩ | ⟨p, ES, clock, hz, hp, hES⟩
        · simp [execOp, ho, resolve, invoke, builtin, Builtin.len_, hat, hz, run_underlying ht, goInt]
        · have := hES.1
          simp [execOp, ho, resolve, invoke, builtin, Builtin.len_, hat, hz, run_underlying ht, goInt, run_getObj_map hp, this]
      · cases hc
    · cases hc
  | app sz s x =>
    simp only [evalOp] at h
    obtain ⟨cs, hcs, h⟩ := Option.bind_eq_some_iff.1 h
    obtain ⟨cx, hcx, h⟩ := Option.bind_eq_some_iff.1 h
    obtain ⟨xs, hxs, h⟩ := Option.bind_eq_some_iff.1 h
    obtain ⟨n, hn', h⟩ := Option.bind_eq_some_iff.1 h
    obtain ⟨⟨q, H'⟩, happ, h⟩ := Option.bind_eq_some_iff.1 h
    simp only at h
    simp only [chkOp] at hc
    split at hc
    · rename_i args ats ho
      simp only [Bool.and_eq_true] at hc
      obtain ⟨y, y', rfl, h1, h2⟩ := chkX2 hc.1
      have hc := hc.2
      split at hc
      · rename_i t u hat hau
        split at hc
        · rename_i el hel
          simp only [Bool.and_eq_true] at hc
          obtain ⟨⟨⟨g1, g2⟩, g3⟩, g4⟩ := hc
          obtain ⟨i, hi, hsz⟩ := szIs_eq g1
          obtain ⟨el', hel'⟩ := Option.isSome_iff_exists.1 g3
          simp only [hi] at g4
          split at g4
          · rename_i z hz
            have hb : 0 < i.bytes ∧ i.bytes ≤ 2048 := by
              unfold bytesOk at g2; rw [hi] at g2; simpa using g2
            obtain ⟨rv, w', φ', f1, f2, f3, f4⟩ := hH.app (evC_rel he h1 hcs) (evC_rel he h2 hcx) hxs hn' happ ats o.type t u el el' i z hat hau (sliceT_eq hel) (sliceT_eq hel') hi hz hsz (by simpa using g4) hb.1 hb.2
            exact wp_of_run (v := rv) (by simp [execOp, ho, resolve, invoke, builtin, f1]) (hn _ _ _ _ _ h f2 f3 (.c f4))
          · cases g4
        · cases hc
      · cases hc
    · cases hc
  | copy sz d s =>
    simp only [evalOp] at h
    obtain ⟨cs, hcs, h⟩ := Option.bind_eq_some_iff.1 h
    obtain ⟨cx, hcx, h⟩ := Option.bind_eq_some_iff.1 h
    obtain ⟨xs, hxs, h⟩ := Option.bind_eq_some_iff.1 h
    obtain ⟨n, hn', h⟩ := Option.bind_eq_some_iff.1 h
    obtain ⟨⟨q, H'⟩, happ, h⟩ := Option.bind_eq_some_iff.1 h
    simp only at h
    simp only [chkOp] at hc
    split at hc
    · rename_i args ats ho
      simp only [Bool.and_eq_true] at hc
      obtain ⟨y, y', rfl, h1, h2⟩ := chkX2 hc.1
      have hc := hc.2
      split at hc
      · rename_i t hat
        split at hc
        · rename_i el hel
          obtain ⟨i, hi, hsz⟩ := szIs_eq hc
          obtain ⟨w', f1, f2, f3⟩ := hH.copy (evC_rel he h1 hcs) (evC_rel he h2 hcx) hxs hn' happ ats o.type t el i hat (sliceT_eq hel) hi hsz
          exact wp_of_run (v := .int .i64 q) (by simp [execOp, ho, resolve, invoke, builtin, f1]) (hn _ _ _ _ _ h f2 f3 (.c (.int _ _)))
        · cases hc
      · cases hc
    · cases hc
  | mkS sz z n =>
    simp only [evalOp] at h
    obtain ⟨m, hm, h⟩ := Option.bind_eq_some_iff.1 h
    split at h
    · rename_i hb
      simp only [chkOp] at hc
      split at hc
      · rename_i t l c ho
        simp only [Bool.and_eq_true] at hc
        obtain ⟨⟨h1, h2⟩, hc⟩ := hc
        split at hc
        · rename_i el hel
          simp only [Bool.and_eq_true] at hc
          obtain ⟨⟨g1, g2⟩, g3⟩ := hc
          obtain ⟨i, hi, hsz⟩ := szIs_eq g1
          obtain ⟨i', zv, hi', hzv, hzc, hzs⟩ := zeroIs_eq g3
          rw [hi] at hi'; cases hi'
          have hbb : 0 < i.bytes ∧ i.bytes ≤ 2048 := by
            unfold bytesOk at g2; rw [hi] at g2; simpa using g2
          obtain ⟨rv, w', φ', f1, f2, f3, f4⟩ := hH.mkS hb.1 hb.2 t el i zv (sliceT_eq hel) hi hzv hsz (chkCs_rel hzc) hzs hbb.2
          exact wp_of_run (v := rv) (by simp [execOp, ho, evI_rel he h1 hm, evI_rel he h2 hm, f1]) (hn _ _ _ _ _ h f2 f3 (.c f4))
        · cases hc
      · cases hc
    · cases h
  | mkF f cap =>
    simp only [evalOp] at h
    obtain ⟨cs, hcs, h⟩ := Option.bind_eq_some_iff.1 h
    simp only [chkOp] at hc
    split at hc
    · rename_i g first captured ho
      simp only [Bool.and_eq_true, beq_iff_eq] at hc
      obtain ⟨⟨rfl, hf⟩, h2⟩ := hc
      have hf' : first = #[] := by simpa using hf
      subst hf'
      exact hsame _ (.func (.func f) #[] (captured.map a.eval)) h (.c (.func .nil (by simpa using evCs_rel he h2 hcs))) (by simp [execOp, ho, Instr.makeFunc])
    · cases hc
  | mkM =>
    simp only [evalOp] at h
    simp only [chkOp] at hc
    split at hc
    · rename_i t ho
      obtain ⟨h1, h2⟩ := hH.alloc (.map []) (.map #[] 0) 0 0 (fun sz' c' e' => by cases e') (fun es e' => by cases e'; exact ⟨#[], 0, rfl, ⟨rfl, fun j k v hj => by simp at hj⟩, fun e he => by simp at he⟩)
      exact wp_of_run (v := .map (some w.heap.size)) (by simp [execOp, ho, Instr.makeMap]) (hn _ _ _ _ _ h h1 h2 (.c (.map (p := ⟨w.heap.size, 0, 0, 0⟩) (Phi.add_same _ _ _))))
    · cases hc
  | look kk z ok kd m k =>
    simp only [evalOp] at h
    obtain ⟨cm, hcm, h⟩ := Option.bind_eq_some_iff.1 h
    obtain ⟨ck, hck, h⟩ := Option.bind_eq_some_iff.1 h
    obtain ⟨es, hes, h⟩ := Option.bind_eq_some_iff.1 h
    obtain ⟨q, hq, h⟩ := Option.bind_eq_some_iff.1 h
    have h := take_some h
    simp only [chkOp] at hc
    split at hc
    · rename_i t m' k' ok' ho
      simp only [Bool.and_eq_true, beq_iff_eq] at hc
      obtain ⟨⟨⟨rfl, h1⟩, h2⟩, hc⟩ := hc
      split at hc
      · rename_i el hel
        obtain ⟨kT, d, g1, g2, g3⟩ := mapT_eq hel
        obtain ⟨i, zv, hi, hzv, hzc⟩ := zeroV_eq hc
        obtain ⟨rv, f1, f2⟩ := hH.look (evC_rel he h1 hcm) (evC_rel he h2 hck) hes hq (chkV_rel hzc) t kT el g1 g2 g3 hi hzv ok
        exact hsame _ rv h f2 (by simp [execOp, ho, f1])
      · cases hc
    · cases hc
  | mset kk m k v =>
    simp only [evalOp] at h
    obtain ⟨cm, hcm, h⟩ := Option.bind_eq_some_iff.1 h
    obtain ⟨ck, hck, h⟩ := Option.bind_eq_some_iff.1 h
    obtain ⟨cv, hcv, h⟩ := Option.bind_eq_some_iff.1 h
    obtain ⟨H', hs, h⟩ := Option.bind_eq_some_iff.1 h
    simp only [chkOp] at hc
    split at hc
    · rename_i t m' k' v' ho
      simp only [Bool.and_eq_true] at hc
      obtain ⟨⟨⟨h1, h2⟩, h3⟩, hc⟩ := hc
      obtain ⟨el, hel⟩ := Option.isSome_iff_exists.1 hc
      obtain ⟨kT, d, g1, g2, g3⟩ := mapT_eq hel
      obtain ⟨w', f1, f2, f3⟩ := hH.mset (evC_rel he h1 hcm) (evC_rel he h2 hck) (ev_rel he h3 hcv) hs t kT el g1 g2 g3
      exact wp_of_skip (by simp [execOp, ho, f1]) (hn _ _ _ _ _ h f2 f3 trivial)
    · rename_i t m' k' v' ho
      simp only [Bool.and_eq_true] at hc
      obtain ⟨⟨⟨h1, h2⟩, h3⟩, hc⟩ := hc
      obtain ⟨el, hel⟩ := Option.isSome_iff_exists.1 hc
      obtain ⟨kT, d, g1, g2, g3⟩ := mapT_eq hel
      obtain ⟨w', f1, f2, f3⟩ := hH.mset (evC_rel he h1 hcm) (evC_rel he h2 hck) (ev_rel he h3 hcv) hs t kT el g1 g2 g3
      exact wp_of_skip (by simp [execOp, ho, f1]) (hn _ _ _ _ _ h f2 f3 trivial)
    · cases hc
  | clr z x =>
    simp only [evalOp] at h
    obtain ⟨cs, hcs, h⟩ := Option.bind_eq_some_iff.1 h
    obtain ⟨H', hcl, h⟩ := Option.bind_eq_some_iff.1 h
    simp only [chkOp] at hc
    split at hc
    · rename_i args ats ho
      simp only [Bool.and_eq_true] at hc
      obtain ⟨y, rfl, h1⟩ := chkX1 hc.1
      have hc := hc.2
      split at hc
      · rename_i t hat
        split at hc
        · rename_i el hel
          obtain ⟨i, zv, hi, hzv, hzc, hzs⟩ := zeroIs_eq hc
          obtain ⟨w', f1, f2, f3⟩ := hH.clr (evC_rel he h1 hcs) hcl ats o.type t el i zv hat (sliceT_eq hel) hi hzv (chkCs_rel hzc)
          exact wp_of_run (v := .tuple #[]) (by simp [execOp, ho, resolve, invoke, builtin, f1]) (hn _ _ _ _ _ h f2 f3 trivial)
        · cases hc
      · cases hc
    · cases hc
  | mdel kk m k =>
    simp only [evalOp] at h
    obtain ⟨cm, hcm, h⟩ := Option.bind_eq_some_iff.1 h
    obtain ⟨ck, hck, h⟩ := Option.bind_eq_some_iff.1 h
    obtain ⟨H', hs, h⟩ := Option.bind_eq_some_iff.1 h
    simp only [chkOp] at hc
    split at hc
    · rename_i args ats ho
      simp only [Bool.and_eq_true] at hc
      obtain ⟨y, y', rfl, h1, h2⟩ := chkX2 hc.1
      have hc := hc.2
      split at hc
      · rename_i t hat
        obtain ⟨el, hel⟩ := Option.isSome_iff_exists.1 hc
        obtain ⟨kT, d, g1, g2, g3⟩ := mapT_eq hel
        obtain ⟨w', f1, f2, f3⟩ := hH.mdel (evC_rel he h1 hcm) (evC_rel he h2 hck) hs ats o.type t kT el hat g1 g2 g3
        exact wp_of_run (v := .tuple #[]) (by simp [execOp, ho, resolve, invoke, builtin, f1]) (hn _ _ _ _ _ h f2 f3 trivial)
      · cases hc
    · cases hc
  | call f kd args =>
    simp only [evalOp] at h
    obtain ⟨vs, hvs, h⟩ := Option.bind_eq_some_iff.1 h
    obtain ⟨⟨v, H'⟩, hcv, h⟩ := Option.bind_eq_some_iff.1 h
    have h := take_some h
    simp only [chkOp] at hc
    split at hc
    · rename_i g ys ats ho
      simp only [Bool.and_eq_true, beq_iff_eq] at hc
      obtain ⟨rfl, hc⟩ := hc
      have hr := evs_rel he hc hvs
      exact call_wp hcall (args := ys.map a.eval) hH (by simpa using hr) hcv h (fun fn c h1 h2 h3 => by
        simp [execOp, ho, resolve, Deferred.ofValue, Act.eval, invoke, run_callFunc h1 h2 h3]) hn
    · cases hc
  | callV x kd args =>
    simp only [evalOp] at h
    obtain ⟨cx, hcx, h⟩ := Option.bind_eq_some_iff.1 h
    obtain ⟨⟨f, first, cap⟩, hf, h⟩ := Option.bind_eq_some_iff.1 h
    obtain ⟨vs, hvs, h⟩ := Option.bind_eq_some_iff.1 h
    obtain ⟨⟨v, H'⟩, hcv, h⟩ := Option.bind_eq_some_iff.1 h
    have hK := take_some h
    simp only [chkOp] at hc
    split at hc
    · rename_i y ys ats ho
      simp only [Bool.and_eq_true] at hc
      have hr := evs_rel he hc.2 hvs
      have hx := evC_rel he hc.1 hcx
      generalize hz : a.eval y = z at hx
      cases hx <;> simp [C.asF] at hf
      rename_i f' fa fc first' cap' k1 k2
      obtain ⟨e1, e2, e3⟩ := hf
      subst e1 e2 e3
      exact call_wp hcall (args := first' ++ ys.map a.eval ++ cap') hH (by simpa using (k1.vs.append hr).append k2.vs) hcv hK (fun fn c h1 h2 h3 => by
        simp [execOp, ho, resolve, hz, Deferred.ofValue, invoke, run_callFunc h1 h2 h3]) hn
    · cases hc
  | ext kd x i =>
    simp only [evalOp] at h
    obtain ⟨v, hv, h⟩ := Option.bind_eq_some_iff.1 h
    simp only [chkOp] at hc
    split at hc
    · rename_i y j ho
      simp only [Bool.and_eq_true, beq_iff_eq] at hc
      obtain ⟨rfl, hc⟩ := hc
      have hr := ev_rel he hc hv
      obtain ⟨u, hu, h⟩ := Option.bind_eq_some_iff.1 h
      have hK := take_some h
      cases v <;> simp [V.ext] at hu
      generalize hz : a.eval y = z at hr
      cases hr with
      | tuple hr =>
        obtain ⟨q, hq, hqr⟩ := hr.get hu
        simp only [Array.getElem?_toList] at hq
        exact hsame _ q hK hqr (by simp [execOp, ho, Instr.extract, hz, hq])
    · cases hc
  | mkI t x =>
    simp only [evalOp] at h
    obtain ⟨v, hv, h⟩ := Option.bind_eq_some_iff.1 h
    simp only [chkOp] at hc
    split at hc
    · rename_i u y ho
      simp only [Bool.and_eq_true, beq_iff_eq] at hc
      obtain ⟨⟨rfl, h1⟩, h2⟩ := hc
      have hr := ev_rel he h1 hv
      have hrun : (execOp a.eval o).run P w = .ok (.value (.iface t (a.eval y))) w := by
        have : (Instr.makeInterface t (a.eval y)).run P w = .ok (.iface t (a.eval y)) w := by
          refine run_makeInterface w t _ ?_
          unfold Program.concrete
          split at h2
          · cases h2
          · cases h2
          · rename_i g1 g2
            split
            · rename_i ms hms; exact absurd hms (g1 ms)
            · rename_i hms; exact absurd hms g2
            · rfl
        simp [execOp, ho, this]
      generalize hz : a.eval y = z at hr hrun
      split at h
      · cases hr with
        | c hr => exact hsame _ _ h (.c (.ifaceC hr)) hrun
      · cases hr with
        | agg hr => exact hsame _ _ h (.c (.ifaceA hr)) hrun
      · cases h
    · cases hc
  | mm mx k x y =>
    simp only [evalOp] at h
    obtain ⟨n, hx, h⟩ := Option.bind_eq_some_iff.1 h
    obtain ⟨m, hy, h⟩ := Option.bind_eq_some_iff.1 h
    simp only [chkOp] at hc
    split at hc
    · rename_i b args ats ho
      simp only [Bool.and_eq_true] at hc
      obtain ⟨y1, y2, rfl, h1, h2⟩ := chkX2 hc.1
      have hc := hc.2
      have e1 := evI_rel he h1 hx
      have e2 := evI_rel he h2 hy
      cases mx
      · simp only [Bool.false_eq_true, if_false] at hc h
        cases b <;> simp at hc
        exact hsame _ _ h (.c (.int _ _)) (by simp [execOp, ho, resolve, invoke, builtin, e1, e2, run_min_int2])
      · simp only [if_true] at hc h
        cases b <;> simp at hc
        exact hsame _ _ h (.c (.int _ _)) (by simp [execOp, ho, resolve, invoke, builtin, e1, e2, run_max_int2])
    · cases hc
end one
end Go.Proofs.Ytnnjklkfcleleaa.Vm
