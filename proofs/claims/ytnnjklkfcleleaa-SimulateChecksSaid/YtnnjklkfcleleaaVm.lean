/-
  A REGION THAT DRAWS ITS ORDER: the machine and the model.
-/
import Derived.Test.YtnnjklkfcleleaaVl
import Derived.Orders
namespace Go.Proofs.Ytnnjklkfcleleaa.Vm
open Go
set_option linter.unusedVariables false
set_option linter.unusedSimpArgs false
variable {lim : Nat} {P : Program}

/-- the exits but for the normal one -/
def Beyond (K : Act → World → Prop) (Q : Exit → Act → World → Prop) : Exit → Act → World → Prop
  | .normal, a, w => K a w
  | ex, a, w => Q ex a w
theorem wpOp_beyond {ops : Array Oper} {K : Act → World → Prop} {Q : Exit → Act → World → Prop} {i : Nat} {a : Act} {w : World} (h : wpOps P ops (Beyond K Q) [i] a w) : wpOp P ops Q i K a w := by
  rw [wpOps_cons] at h
  unfold wpOp at h ⊢
  split
  · rename_i ho
    simp only [ho] at h
    exact h
  · rename_i o ho
    simp only [ho] at h
    split
    · rename_i hw
      simp only [hw, if_true] at h
      rcases h with h | ⟨h1, a', w', h2⟩
      · left
        unfold Oper.wp at *
        generalize (execOp a.eval o).run P w = r at *
        cases r with
        | ok n w' =>
          cases n <;> simp only [Oper.upon] at h ⊢ <;>
            first
              | exact h
              | exact Calls.mono h (fun e w'' he => by cases e <;> first | exact he | (obtain ⟨a', w', h2⟩ := he; exact ⟨a', w', h2⟩))
              | exact Rows.mono h (fun _ _ he => he)
        | halt x w' => cases x <;> simp only [Oper.upon] at h ⊢ <;> exact h
      · exact .inr ⟨h1, a', w', h2⟩
    · rename_i hw
      simp only [hw] at h
      exact h

def gmatch (ops : Array Oper) : Gd → Gd → Bool
  | none, none => true
  | some (c, want), some (j, want') => want == want' && (ops[j]?).bind (·.dst) == some c
  | _, _ => false
def chkAt (P : Program) (a : At) (o : Oper) : Bool := match a with
  | .op d rop => o.dst == d && chkOp P rop o
  | .lbox n p x => o.dst == some p && isBox x o
  | .lnew p z => o.dst == some p && isNew P z o
  | .st _ n b x => o.dst == none && isSt P n b x o
  | .pick and c keep d _ => o.dst == some d && isPick and c keep o
def chkIt (P : Program) (ops : Array Oper) (it : It) : Bool := match ops[it.i]? with
  | some o => chkAt P it.a o && gmatch ops it.g o.guard && (match it.g with
    | some (c, _) => !it.a.writes.contains c
    | none => true)
  | none => false

theorem guard_rel {base : Nat} {φ : Phi} {ψ : Nat → Nat} {e : Env} {ts : Array Value} {w : World} (he : ERel lim base φ ψ e ts w) {c : Nat} {b : Option Bool} (h : guardOf e c = some b) :
    ts[c]? = some (match b with | some b => .bool b | none => .tuple #[]) := by
  unfold guardOf at h
  split at h
  · rename_i v hv
    cases h
    obtain ⟨x, hx, hr⟩ := he.tmp c _ (Env.get_eq hv (by simp))
    cases hr with | c hr => cases hr; exact hx
  · rename_i hv
    cases h
    obtain ⟨x, hx, hr⟩ := he.tmp c _ (Env.get_eq hv (by simp))
    cases hr with | @tuple _ arr hr =>
      have : arr.toList = [] := by
        generalize arr.toList = l at hr
        cases hr; rfl
      rw [hx]; congr 2; exact Array.toList_inj.1 this
  · cases h

section
variable {call : CallT} (hcall : CallOK lim P call) {ops : Array Oper} {Q : Exit → Act → World → Prop} {φ0 : Phi} {w0 : World}
include hcall
theorem item_sound {it : It} (hc : chkIt P ops it = true) {a : Act} {e e2 : Env} {H H2 : Heap} {φ : Phi} {ψ : Nat → Nat} {w : World} {W : List Nat} {K : Act → World → Prop}
    (he : ERel lim w0.heap.size φ ψ e a.tmps w) (hH : HRel lim φ H w) (hx : Ext lim φ0 w0 φ w) (hf : Free e W) (hw : ∀ p ∈ it.a.writes, p ∈ W) (h : stepI lim call it e H = some (e2, H2))
    (hK : ∀ a' w' φ' ψ', ERel lim w0.heap.size φ' ψ' e2 a'.tmps w' → HRel lim φ' H2 w' → Ext lim φ0 w0 φ' w' → a'.defers = a.defers → (∀ (p : Nat), p ∉ it.a.writes → a'.tmps[p]? = a.tmps[p]?) → (∀ b cs, Priv lim φ w e ψ b cs → Priv lim φ' w' e2 ψ' b cs) → K a' w') : wpOp P ops Q it.i K a w := by
  obtain ⟨i, g, at_⟩ := it
  unfold chkIt at hc
  split at hc
  · rename_i o ho
    simp only [Bool.and_eq_true] at hc
    obtain ⟨⟨hat, hgm⟩, hown⟩ := hc
    simp only at ho hat hgm hown hw
    -- the operation is carried out
    have on : gOK ops o.guard a at_.writes → stepA lim call at_ e H = some (e2, H2) → wpOp P ops Q i K a w := by
      intro hg h
      have fin : ∀ (os : Ops), chkOps P ops o.guard os i = some 1 → dsts os = at_.writes → runOps lim call os e H (fun e H => some (e, H)) = some (e2, H2) → wpOp P ops Q i K a w := by
        intro os h1 h2 h3
        refine wpOp_beyond ?_
        have := ops_sound hcall (ops := ops) (Q := Beyond K Q) (φ0 := φ0) (w0 := w0) os (fun e H => some (e, H)) (e2, H2) o.guard i 1 a e H φ ψ w [] h1 (by rw [h2]; exact hg) h3 he hH hx
          (fun e' H' φ' ψ' a' w' hk hl => by
            cases hk
            simp only [wpOps]
            exact hK a' w' φ' ψ' hl.env hl.heap hl.ext hl.defers (fun p hp => hl.other p (by rw [h2]; exact hp)) hl.priv)
        simpa using this
      cases at_ with
      | op d rop =>
        simp only [chkAt, Bool.and_eq_true, beq_iff_eq] at hat
        refine fin (.op d rop .nil) (by simp [chkOps, ho, hat.1, hat.2]) (by simp [dsts, At.writes]) ?_
        simp only [stepA] at h
        obtain ⟨t, H1, h, hn⟩ := evalOp_nat h
        cases h
        simp only [runOps]
        rw [hn.all, hf.putO hw (fun q o hq => hf.rooted (hn.root q o hq))]
      | lbox n p x =>
        simp only [chkAt, Bool.and_eq_true, beq_iff_eq] at hat
        refine fin (.lbox n p x .nil) (by simp [chkOps, ho, hat.1, hat.2]) (by simp [dsts, At.writes]) ?_
        simp only [runOps]
        rw [hf.purge (hw p (by simp [At.writes]))]
        exact h
      | lnew p z =>
        simp only [chkAt, Bool.and_eq_true, beq_iff_eq] at hat
        refine fin (.lnew p z .nil) (by simp [chkOps, ho, hat.1, hat.2]) (by simp [dsts, At.writes]) ?_
        simp only [runOps]
        rw [hf.purge (hw p (by simp [At.writes]))]
        exact h
      | st hp n b x =>
        simp only [chkAt, Bool.and_eq_true, beq_iff_eq] at hat
        exact fin (.st hp n b x .nil) (by simp [chkOps, ho, hat.1, hat.2]) (by simp [dsts, At.writes]) h
      | pick and c keep d ks =>
        simp only [chkAt, Bool.and_eq_true, beq_iff_eq] at hat
        obtain ⟨hd, hpick⟩ := hat
        simp only [stepA] at h
        obtain ⟨b, hb, h⟩ := Option.bind_eq_some_iff.1 h
        obtain ⟨q, hq, h⟩ := Option.bind_eq_some_iff.1 h
        cases h
        unfold wpOp
        simp only [ho, hg.wanted rfl, if_true]
        left
        have hbt : a.eval (.tmp c) = .bool b := evB_rel he (x := .t c) (y := .tmp c) (by simp [chkX]) hb
        refine wp_of_run (v := .bool q) (w' := w) ?_ ?_
        · unfold isPick at hpick
          split at hpick
          · rename_i x A B hop
            simp only [Bool.and_eq_true] at hpick
            obtain ⟨hcx, hpick⟩ := hpick
            have hx' : x = .tmp c := by cases x <;> simp [chkX] at hcx; rw [hcx]
            subst hx'
            cases and with
            | true =>
              simp only [if_true, Bool.and_eq_true] at hpick
              have hB := isFalse_eq hpick.2
              subst hB
              cases b with
              | true => rw [if_pos rfl] at hq; simp [execOp, hop, hbt, asBool, evB_rel he hpick.1 hq]
              | false =>
                simp only [Bool.false_eq_true, if_false, Option.some.injEq] at hq; subst hq
                have hev : a.eval (.const (.bool false)) = .bool false := rfl
                simp [execOp, hop, hbt, asBool, hev]
            | false =>
              simp only [Bool.false_eq_true, if_false, Bool.and_eq_true] at hpick
              have hA := isTrue_eq hpick.1
              subst hA
              cases b with
              | false => rw [if_pos rfl] at hq; simp [execOp, hop, hbt, asBool, evB_rel he hpick.2 hq]
              | true =>
                simp only [Bool.true_eq_false, if_false, Option.some.injEq] at hq; subst hq
                have hev : a.eval (.const (.bool true)) = .bool true := rfl
                simp [execOp, hop, hbt, asBool, hev]
          · cases hpick
        · rw [hd]
          have hf2 : Free (e.set d (.val (.c (.bool q)))) ks := Free.set (hf.sub fun p hp => hw p (by simp [At.writes, hp])) (fun cs ht => by cases ht) (fun q o ht => by cases ht)
          refine hK _ w φ ψ ?_ hH hx (put_defers _ _ _) (fun p hp => put_other (by simp [At.writes] at hp ⊢; exact hp.1)) (fun b cs hb => ⟨hb.1, fun p c hp => hb.2 p c ?_⟩)
          rotate_left
          · rw [← hf2.kill] at hp
            have := locs_kill hp
            rw [← hf.put (hw d (by simp [At.writes])) (fun q o ht => by cases ht)] at this
            exact locs_put (fun c hc => by cases hc) this
          have := he.put d (t := .val (.c (.bool q))) (x := .bool q) (.c (.bool q))
          rw [hf.put (hw d (by simp [At.writes])) (fun q o ht => by cases ht)] at this
          rw [← hf2.kill]
          exact this.kill ks
    cases g with
    | none =>
      cases hog : o.guard with
      | none => exact on (by rw [hog]; trivial) h
      | some y => rw [hog] at hgm; simp [gmatch] at hgm
    | some y =>
      obtain ⟨c, want⟩ := y
      cases hog : o.guard with
      | none => rw [hog] at hgm; simp [gmatch] at hgm
      | some z =>
        obtain ⟨j, want'⟩ := z
        rw [hog] at hgm
        simp only [gmatch, Bool.and_eq_true, beq_iff_eq] at hgm
        obtain ⟨rfl, hj⟩ := hgm
        simp only [stepI] at h
        obtain ⟨b, hb, h⟩ := Option.bind_eq_some_iff.1 h
        have hts := guard_rel he hb
        split at h
        · rename_i hbw
          subst hbw
          exact on (by rw [hog]; exact ⟨c, hj, hts, by simpa using hown⟩) h
        · rename_i hbw
          cases h
          have hnw : Region.wanted o (yielded ops a.tmps) = false := by
            refine off_wanted hog hj fun v hv => ?_
            rw [hts] at hv; cases hv
            cases b with
            | none => simp
            | some b => simp; intro hb'; exact hbw (by rw [hb'])
          unfold wpOp
          simp only [ho, hnw, Bool.false_eq_true, if_false]
          have hod : o.dst = at_.dst := by
            cases at_ <;> simp [chkAt] at hat <;> simp [At.dst, hat.1]
          rw [hod]
          refine hK _ w φ ψ ?_ hH hx (put_defers _ _ _) (fun p hp => put_other fun h => hp (dst_writes h)) (fun b cs hb => ⟨hb.1, fun p c hp => hb.2 p c ?_⟩)
          rotate_left
          · cases hdst : at_.dst with
            | none => rw [hdst] at hp; exact hp
            | some d =>
              rw [hdst] at hp
              have : (e.put d off)[p]? = some (.loc c) := by rw [hf.put (hw d (dst_writes (by simp [hdst]))) (fun q o ht => by cases ht)]; exact hp
              exact locs_put (fun c hc => by cases hc) this
          cases hdst : at_.dst with
          | none => exact he
          | some d =>
            have := he.put d (t := off) (x := undef) (.tuple .nil)
            rwa [hf.put (hw d (dst_writes (by simp [hdst]))) (fun q o ht => by cases ht)] at this
  · cases hc
end

/-! ### the whole region -/
def bef (ops : Array Oper) (y k : Nat) : Bool := ((Region.before ops).getD y 0).testBit k
def chkPre (ops : Array Oper) : List It → List It → Bool
  | _, [] => true
  | pre, y :: ys => (match ops[y.i]? with
    | some o => o.after.toList.all (fun ed => !Region.binds .any ed || pre.any (fun x => x.i == ed.on)) &&
      (List.range ops.size).all (fun k => !bef ops y.i k || o.after.toList.any (fun ed => Region.binds .any ed && (k == ed.on || bef ops ed.on k)))
    | none => false) && pre.all (fun x => (bef ops y.i x.i || swapOK x y) && apartL x y && !(x.i == y.i)) && chkPre ops (pre ++ [y]) ys
def chkRow (P : Program) (ops : Array Oper) (its : List It) : Bool :=
  its.all (chkIt P ops) && its.length == ops.size && (List.range ops.size).all (fun k => its.any (fun x => x.i == k)) && chkPre ops [] its

theorem chkPre_at {ops : Array Oper} : ∀ {its pre : List It}, chkPre ops pre its = true → ∀ {us vs : List It} {y : It}, its = us ++ y :: vs →
    (∃ o, ops[y.i]? = some o ∧ (∀ ed ∈ o.after, Region.binds .any ed = true → ∃ x ∈ pre ++ us, x.i = ed.on) ∧ (∀ k, k < ops.size → bef ops y.i k = true → ∃ ed ∈ o.after, Region.binds .any ed = true ∧ (k = ed.on ∨ bef ops ed.on k = true))) ∧
    ∀ x ∈ pre ++ us, (bef ops y.i x.i = true ∨ swapOK x y = true) ∧ apartL x y = true ∧ x.i ≠ y.i := by
  intro its
  induction its with
  | nil => intro pre h us vs y he; cases us <;> simp at he
  | cons z zs ih =>
    intro pre h us vs y he
    simp only [chkPre, Bool.and_eq_true] at h
    obtain ⟨⟨h1, h2⟩, h3⟩ := h
    cases us with
    | nil =>
      simp only [List.nil_append, List.cons.injEq] at he
      obtain ⟨rfl, rfl⟩ := he
      simp only [List.append_nil]
      refine ⟨?_, fun x hx => ?_⟩
      · split at h1
        · rename_i o ho
          simp only [Bool.and_eq_true, List.all_eq_true, Bool.or_eq_true, Bool.not_eq_true', List.any_eq_true, beq_iff_eq, List.mem_range] at h1
          refine ⟨o, ho, fun ed hed hb => ?_, fun k hk hb => ?_⟩
          · rcases h1.1 ed (by simpa using hed) with h | h
            · rw [hb] at h; cases h
            · exact h
          · rcases h1.2 k hk with h | ⟨ed, hed, h⟩
            · rw [hb] at h; cases h
            · exact ⟨ed, by simpa using hed, h⟩
        · cases h1
      · have := List.all_eq_true.1 h2 x hx
        simp only [Bool.and_eq_true, Bool.or_eq_true, Bool.not_eq_true', beq_eq_false_iff_ne] at this
        exact ⟨this.1.1, this.1.2, this.2⟩
    | cons u us =>
      simp only [List.cons_append, List.cons.injEq] at he
      obtain ⟨rfl, rfl⟩ := he
      have := ih h3 (us := us) (vs := vs) (y := y) rfl
      simpa using this

def unl (listed : Array Bool) (it : It) : Bool := !listed.getD it.i true

theorem before_pairs {ops : Array Oper} {its : List It} (h : chkPre ops [] its = true) : its.Pairwise (fun a b => apartL a b = true ∧ a.i ≠ b.i) := by
  have : ∀ (zs pre : List It), its = pre ++ zs → zs.Pairwise (fun a b => apartL a b = true ∧ a.i ≠ b.i) ∧ ∀ x ∈ pre, ∀ z ∈ zs, apartL x z = true ∧ x.i ≠ z.i := by
    intro zs
    induction zs with
    | nil => intro pre _; exact ⟨.nil, fun x _ z hz => by simp at hz⟩
    | cons z zs ih =>
      intro pre he
      have h1 := chkPre_at h (us := pre) (vs := zs) (y := z) he
      obtain ⟨h2, h3⟩ := ih (pre ++ [z]) (by simp [he])
      refine ⟨List.pairwise_cons.2 ⟨fun b hb => h3 z (by simp) b hb, h2⟩, fun x hx b hb => ?_⟩
      rcases List.mem_cons.1 hb with rfl | hb
      · exact (h1.2 x (by simpa using hx)).2
      · exact h3 x (by simp [hx]) b hb
  exact (this its [] rfl).1

section
variable {call : CallT} (hcall : CallOK lim P call) {ops : Array Oper} {Q : Exit → Act → World → Prop} {φ0 : Phi} {w0 : World}
include hcall
theorem draw_any {its : List It} (hrow : chkRow P ops its = true) {eF : Env} {HF : Heap} {d0 : List Deferred}
    (fin : ∀ a w φ ψ, ERel lim w0.heap.size φ ψ eF a.tmps w → HRel lim φ HF w → Ext lim φ0 w0 φ w → a.defers = d0 → Q .normal a w) :
    ∀ (fuel : Nat) (listed : Array Bool) (a : Act) (w : World) (e : Env) (H : Heap) (φ : Phi) (ψ : Nat → Nat), listed.size = ops.size → (its.filter (unl listed)).length = fuel →
      (∀ i k, k < ops.size → listed.getD i false = true → bef ops i k = true → listed.getD k false = true) → flat lim call (its.filter (unl listed)) e H = some (eF, HF) → Free e (W (its.filter (unl listed))) →
      ERel lim w0.heap.size φ ψ e a.tmps w → HRel lim φ H w → Ext lim φ0 w0 φ w → a.defers = d0 → wpAny P .any ops Q fuel listed a w := by
  simp only [chkRow, Bool.and_eq_true, List.all_eq_true, List.any_eq_true, List.mem_range, beq_iff_eq] at hrow
  obtain ⟨⟨⟨hits, hlen⟩, hfull⟩, hpre⟩ := hrow
  have hpairs := before_pairs hpre
  have hsize : ∀ it ∈ its, it.i < ops.size := fun it hit => by
    have := hits it hit
    unfold chkIt at this
    split at this
    · rename_i o ho; exact (Array.getElem?_eq_some_iff.1 ho).1
    · cases this
  intro fuel
  induction fuel with
  | zero =>
    intro listed a w e H φ ψ hsz hfl hdc h hf he hH hx hd
    have hnil := List.eq_nil_of_length_eq_zero hfl
    refine ⟨?_, ?_⟩
    · cases hr : Region.ready .any ops listed with
      | nil => rfl
      | cons i is =>
        exfalso
        have hi : i ∈ Region.ready .any ops listed := by rw [hr]; simp
        obtain ⟨h0, o, ho, _⟩ := mem_ready.1 hi
        obtain ⟨it, hit, rfl⟩ := hfull i (Array.getElem?_eq_some_iff.1 ho).1
        have : it ∈ its.filter (unl listed) := List.mem_filter.2 ⟨hit, by simp [unl, h0]⟩
        rw [hnil] at this; cases this
    · rw [hnil] at h
      simp only [flat] at h
      cases h
      exact fin a w φ ψ he hH hx hd
  | succ fuel ih =>
    intro listed a w e H φ ψ hsz hfl hdc h hf he hH hx hd
    have hlisted : ∀ it ∈ its, listed.getD it.i false = true ∨ unl listed it = true := fun it hit => by
      have := hsize it hit
      simp only [unl, Array.getD_eq_getD_getElem?]
      rw [Array.getElem?_eq_getElem (by omega)]
      simp only [Option.getD_some]
      cases listed[it.i] <;> simp
    refine ⟨fun hr => ?_, fun i hi => ?_⟩
    · exfalso
      cases hfs : its.filter (unl listed) with
      | nil => rw [hfs] at hfl; simp at hfl
      | cons y ys =>
        obtain ⟨us, vs, heq, hus, hy, _⟩ := List.filter_eq_cons_iff.1 hfs
        obtain ⟨⟨o, ho, haft, _⟩, _⟩ := chkPre_at hpre heq
        have hyi : y ∈ its := by rw [heq]; simp
        have : y.i ∈ Region.ready .any ops listed := by
          refine mem_ready.2 ⟨by simpa [unl] using hy, o, ho, fun ed hed hb => ?_⟩
          obtain ⟨x, hxm, hxi⟩ := haft ed hed hb
          simp only [List.nil_append] at hxm
          rw [← hxi]
          exact (hlisted x (by rw [heq]; simp [hxm])).resolve_right (fun h => hus x hxm h)
        rw [hr] at this; cases this
    · obtain ⟨h0, o, ho, haft⟩ := mem_ready.1 hi
      obtain ⟨y, hy, rfl⟩ := hfull i (Array.getElem?_eq_some_iff.1 ho).1
      obtain ⟨us, vs, heq⟩ := List.append_of_mem hy
      obtain ⟨⟨o', ho', _, hclo⟩, hprev⟩ := chkPre_at hpre heq
      have hoo : o' = o := by rw [ho] at ho'; exact (Option.some.inj ho').symm
      subst hoo
      simp only [List.nil_append] at hprev
      have hB : ∀ k, k < ops.size → bef ops y.i k = true → listed.getD k false = true := fun k hk hb => by
        obtain ⟨ed, hed, hbd, hor⟩ := hclo k hk hb
        have h1 := haft ed hed hbd
        rcases hor with rfl | h2
        · exact h1
        · exact hdc _ _ hk h1 h2
      have huy : unl listed y = true := by simp [unl, h0]
      have hne : ∀ x ∈ us ++ vs, x.i ≠ y.i := by
        rw [heq] at hpairs
        intro x hx
        rw [List.pairwise_append, List.pairwise_cons] at hpairs
        rcases List.mem_append.1 hx with hx | hx
        · exact (hpairs.2.2 x hx y (by simp)).2
        · exact fun e => (hpairs.2.1.1 x hx).2 e.symm
      have hsame : ∀ x ∈ us ++ vs, unl (listed.setIfInBounds y.i true) x = unl listed x := fun x hx => by
        simp only [unl]; rw [getD_set_ne true (Ne.symm (hne x hx))]
      have hself : unl (listed.setIfInBounds y.i true) y = false := by
        have := hsize y hy
        simp [unl, hsz, this]
      have hf1 : its.filter (unl listed) = us.filter (unl listed) ++ y :: vs.filter (unl listed) := by
        rw [heq, List.filter_append, List.filter_cons, if_pos huy]
      have hf2 : its.filter (unl (listed.setIfInBounds y.i true)) = us.filter (unl listed) ++ vs.filter (unl listed) := by
        rw [heq, List.filter_append, List.filter_cons, hself]
        simp only [Bool.false_eq_true, if_false]
        congr 1
        · exact List.filter_congr fun x hx => hsame x (by simp [hx])
        · exact List.filter_congr fun x hx => hsame x (by simp [hx])
      have hpw : (us.filter (unl listed) ++ y :: vs.filter (unl listed)).Pairwise (fun a b => apartL a b = true ∧ a.i ≠ b.i) := by
        rw [← hf1]; exact hpairs.filter _
      rw [List.pairwise_append, List.pairwise_cons] at hpw
      rw [hf1] at h hf
      obtain ⟨e1, H1, h1, h2⟩ := pull (fun x hx => by
          obtain ⟨hxu, hxl⟩ := List.mem_filter.1 hx
          rcases (hprev x hxu).1 with hb | hs
          · have := hB x.i (hsize x (by rw [heq]; simp [hxu])) hb
            have hxs := hsize x (by rw [heq]; simp [hxu])
            simp only [unl, Array.getD_eq_getD_getElem?] at hxl this
            rw [Array.getElem?_eq_getElem (by omega)] at hxl this
            simp only [Option.getD_some] at hxl this
            rw [this] at hxl; cases hxl
          · exact hs)
        (fun x hx => (hpw.2.2 x hx y (by simp)).1) (hpw.1.imp fun h => h.1) (fun x hx z hz => (hpw.2.2 x hx z (by simp [hz])).1) hf h
      refine item_sound hcall (hits y hy) he hH hx hf (fun p hp => by simp [W, hp]) h1 fun a' w' φ' ψ' he' hH' hx' hd' _ _ => ?_
      refine ih (listed.setIfInBounds y.i true) a' w' e1 H1 φ' ψ' (by simpa using hsz) ?_ ?_ ?_ ?_ he' hH' hx' (hd'.trans hd)
      · rw [hf1] at hfl; rw [hf2]; simp at hfl ⊢; omega
      · intro i k hk hli hb
        by_cases hiy : i = y.i
        · subst hiy
          exact getD_set_true (hB k hk hb)
        · rw [getD_set_ne false (Ne.symm hiy)] at hli
          exact getD_set_true (hdc i k hk hli hb)
      · rw [hf2]; exact h2
      · rw [hf2]
        refine free_step h1 hf (fun p hp hpw2 => ?_) fun p hp => by simp [W] at hp ⊢; rcases hp with h | h <;> simp [h]
        simp only [W, List.mem_flatMap, List.mem_append] at hpw2
        obtain ⟨z, hz, hpz⟩ := hpw2
        have hap : ∀ p ∈ y.a.lets, p ∉ z.a.writes := by
          rcases hz with hz | hz
          · have := (hpw.2.2 z hz y (by simp)).1
            simp only [apartL, Bool.and_eq_true, List.all_eq_true, Bool.not_eq_true', List.contains_eq_mem, decide_eq_false_iff_not] at this
            exact this.2
          · have := (hpw.2.1.1 z hz).1
            simp only [apartL, Bool.and_eq_true, List.all_eq_true, Bool.not_eq_true', List.contains_eq_mem, decide_eq_false_iff_not] at this
            exact this.1
        exact hap p hp hpz
end
end Go.Proofs.Ytnnjklkfcleleaa.Vm
