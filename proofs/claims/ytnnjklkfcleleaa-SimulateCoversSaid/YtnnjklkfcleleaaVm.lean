/-
  A REGION THAT DRAWS ITS ORDER: the machine and the model.
-/
import Derived.Test.YtnnjklkfcleleaaVl
import Derived.Orders
namespace Go.Proofs.Ytnnjklkfcleleaa.Vm
open Go
set_option linter.unusedVariables false
set_option linter.unusedSimpArgs false
variable {lim : Nat} {P : Program}

/-- the exits but for the normal one -/
def Beyond (K : Act → World → Prop) (Q : Exit → Act → World → Prop) : Exit → Act → World → Prop
  | .normal, a, w => K a w
  | ex, a, w => Q ex a w
theorem wpOp_beyond {ops : Array Oper} {K : Act → World → Prop} {Q : Exit → Act → World → Prop} {i : Nat} {a : Act} {w : World} (h : wpOps P ops (Beyond K Q) [i] a w) : wpOp P ops Q i K a w := by
  rw [wpOps_cons] at h
  unfold wpOp at h ⊢
  split
  · rename_i ho
    simp only [ho] at h
    exact h
  · rename_i o ho
    simp only [ho] at h
    split
    · rename_i hw
      simp only [hw, if_true] at h
      rcases h with h | ⟨h1, a', w', h2⟩
      · left
        unfold Oper.wp at *
        generalize (execOp a.eval o).run P w = r at *
        cases r with
        | ok n w' =>
          cases n <;> simp only [Oper.upon] at h ⊢ <;>
            first
              | exact h
              | exact Calls.mono h (fun e w'' he => by cases e <;> first | exact he | (obtain ⟨a', w', h2⟩ := he; exact ⟨a', w', h2⟩))
              | exact Rows.mono h (fun _ _ he => he)
        | halt x w' => cases x <;> simp only [Oper.upon] at h ⊢ <;> exact h
      · exact .inr ⟨h1, a', w', h2⟩
    · rename_i hw
      simp only [hw] at h
      exact h

def gmatch (ops : Array Oper) : Gd → Gd → Bool
  | none, none => true
  | some (c, want), some (j, want') => want == want' && (ops[j]?).bind (·.dst) == some c
  | _, _ => false
def chkAt (P : Program) (a : At) (o : Oper) : Bool := match a with
  | .op d rop => o.dst == d && chkOp P rop o
  | .lbox n p x => o.dst == some p && isBox x o
  | .lnew p z => o.dst == some p && isNew P z o
  | .st _ n b x => o.dst == none && isSt P n b x o
  | .pick and c keep d _ => o.dst == some d && isPick and c keep o
def chkIt (P : Program) (ops : Array Oper) (it : It) : Bool := match ops[it.i]? with
  | some o => chkAt P it.a o && gmatch ops it.g o.guard && (match it.g with
    | some (c, _) => !it.a.writes.contains c
    | none => true)
  | none => false

theorem guard_rel {base : Nat} {φ : Phi} {ψ : Nat → Nat} {e : Env} {ts : Array Value} {w : World} (he : ERel lim base φ ψ e ts w) {c : Nat} {b : Option Bool} (h : guardOf e c = some b) :
    ts[c]? = some (match b with | some b => .bool b | none => .tuple #[]) := by
  unfold guardOf at h
  split at h
  · rename_i v hv
    cases h
    obtain ⟨x, hx, hr⟩ := he.tmp c _ (Env.get_eq hv (by simp))
    cases hr with | c hr => cases hr; exact hx
  · rename_i hv
    cases h
    obtain ⟨x, hx, hr⟩ := he.tmp c _ (Env.get_eq hv (by simp))
    cases hr with | @tuple _ arr hr =>
      have : arr.toList = [] := by
        generalize arr.toList = l at hr
        cases hr; rfl
      rw [hx]; congr 2; exact Array.toList_inj.1 this
  · cases h

section
variable {call : CallT} (hcall : CallOK lim P call) {ops : Array Oper} {Q : Exit → Act → World → Prop} {φ0 : Phi} {w0 : World}
include hcall
theorem item_sound {it : It} (hc : chkIt P ops it = true) {a : Act} {e e2 : Env} {H H2 : Heap} {φ : Phi} {ψ : Nat → Nat} {w : World} {W : List Nat} {K : Act → World → Prop}
    (he : ERel lim w0.heap.size φ ψ e a.tmps w) (hH : HRel lim φ H w) (hx : Ext lim φ0 w0 φ w) (hf : Free e W) (hw : ∀ p ∈ it.a.writes, p ∈ W) (h : stepI lim call it e H = some (e2, H2))
    (hK : ∀ a' w' φ' ψ', ERel lim w0.heap.size φ' ψ' e2 a'.tmps w' → HRel lim φ' H2 w' → Ext lim φ0 w0 φ' w' → a'.defers = a.defers → (∀ (p : Nat), p ∉ it.a.writes → a'.tmps[p]? = a.tmps[p]?) → (∀ b cs, Priv lim φ w e ψ b cs → Priv lim φ' w' e2 ψ' b cs) → K a' w') : wpOp P ops Q it.i K a w := by
  obtain ⟨i, g, at_⟩ := it
  unfold chkIt at hc
  split at hc
  · rename_i o ho
    simp only [Bool.and_eq_true] at hc
    obtain ⟨⟨hat, hgm⟩, hown⟩ := hc
    simp only at ho hat hgm hown hw
    -- the operation is carried out
    have on : gOK ops o.guard a at_.writes → stepA lim call at_ e H = some (e2, H2) → wpOp P ops Q i K a w := by
      intro hg h
      have fin : ∀ (os : Ops), chkOps P ops o.guard os i = some 1 → dsts os = at_.writes → runOps lim call os e H (fun e H => some (e, H)) = some (e2, H2) → wpOp P ops Q i K a w := by
        intro os h1 h2 h3
        refine wpOp_beyond ?_
        have := ops_sound hcall (ops := ops) (Q := Beyond K Q) (φ0 := φ0) (w0 := w0) os (fun e H => some (e, H)) (e2, H2) o.guard i 1 a e H φ ψ w [] h1 (by rw [h2]; exact hg) h3 he hH hx
          (fun e' H' φ' ψ' a' w' hk hl => by
            cases hk
            simp only [wpOps]
            exact hK a' w' φ' ψ' hl.env hl.heap hl.ext hl.defers (fun p hp => hl.other p (by rw [h2]; exact hp)) hl.priv)
        simpa using this
      cases at_ with
      | op d rop =>
        simp only [chkAt, Bool.and_eq_true, beq_iff_eq] at hat
        refine fin (.op d rop .nil) (by simp [chkOps, ho, hat.1, hat.2]) (by simp [dsts, At.writes]) ?_
        simp only [stepA] at h
        obtain ⟨t, H1, h, hn⟩ := evalOp_nat h
        cases h
        simp only [runOps]
        rw [hn.all, hf.putO hw (fun q o hq => hf.rooted (hn.root q o hq))]
      | lbox n p x =>
        simp only [chkAt, Bool.and_eq_true, beq_iff_eq] at hat
        refine fin (.lbox n p x .nil) (by simp [chkOps, ho, hat.1, hat.2]) (by simp [dsts, At.writes]) ?_
        simp only [runOps]
        rw [hf.purge (hw p (by simp [At.writes]))]
        exact h
      | lnew p z =>
        simp only [chkAt, Bool.and_eq_true, beq_iff_eq] at hat
        refine fin (.lnew p z .nil) (by simp [chkOps, ho, hat.1, hat.2]) (by simp [dsts, At.writes]) ?_
        simp only [runOps]
        rw [hf.purge (hw p (by simp [At.writes]))]
        exact h
      | st hp n b x =>
        simp only [chkAt, Bool.and_eq_true, beq_iff_eq] at hat
        exact fin (.st hp n b x .nil) (by simp [chkOps, ho, hat.1, hat.2]) (by simp [dsts, At.writes]) h
      | pick and c keep d ks =>
        simp only [chkAt, Bool.and_eq_true, beq_iff_eq] at hat
        obtain ⟨hd, hpick⟩ := hat
        simp only [stepA] at h
        obtain ⟨b, hb, h⟩ := Option.bind_eq_some_iff.1 h
        obtain ⟨q, hq, h⟩ := Option.bind_eq_some_iff.1 h
        cases h
        unfold wpOp
        simp only [ho, hg.wanted rfl, if_true]
        left
        have hbt : a.eval (.tmp c) = .bool b := evB_rel he (x := .t c) (y := .tmp c) (by simp [chkX]) hb
        refine wp_of_run (v := .bool q) (w' := w) ?_ ?_
        · unfold isPick at hpick
          split at hpick
          · rename_i x A B hop
            simp only [Bool.and_eq_true] at hpick
            obtain ⟨hcx, hpick⟩ := hpick
            have hx' : x = .tmp c := by cases x <;> simp [chkX] at hcx; rw [hcx]
            subst hx'
            cases and with
            | true =>
              simp only [if_true, Bool.and_eq_true] at hpick
              have hB := isFalse_eq hpick.2
              subst hB
              cases b with
              | true => rw [if_pos rfl] at hq; simp [execOp, hop, hbt, asBool, evB_rel he hpick.1 hq]
              | false =>
                simp only [Bool.false_eq_true, if_false, Option.some.injEq] at hq; subst hq
                have hev : a.eval (.const (.bool false)) = .bool false := rfl
                simp [execOp, hop, hbt, asBool, hev]
            | false =>
              simp only [Bool.false_eq_true, if_false, Bool.and_eq_true] at hpick
              have hA := isTrue_eq hpick.1
              subst hA
              cases b with
              | false => rw [if_pos rfl] at hq; simp [execOp, hop, hbt, asBool, evB_rel he hpick.2 hq]
              | true =>
                simp only [Bool.true_eq_false, if_false, Option.some.injEq] at hq; subst hq
                have hev : a.eval (.const (.bool true)) = .bool true := rfl
                simp [execOp, hop, hbt, asBool, hev]
          · cases hpick
        · rw [hd]
          have hf2 : Free (e.set d (.val (.c (.bool q)))) ks := Free.set (hf.sub fun p hp => hw p (by simp [At.writes, hp])) (fun cs ht => by cases ht) (fun q o ht => by cases ht)
          refine hK _ w φ ψ ?_ hH hx (put_defers _ _ _) (fun p hp => put_other (by simp [At.writes] at hp ⊢; exact hp.1)) (fun b cs hb => ⟨hb.1, fun p c hp => hb.2 p c ?_⟩)
          rotate_left
          · rw [← hf2.kill] at hp
            have := locs_kill hp
            rw [← hf.put (hw d (by simp [At.writes])) (fun q o ht => by cases ht)] at this
            exact locs_put (fun c hc => by cases hc) this
          have := he.put d (t := .val (.c (.bool q))) (x := .bool q) (.c (.bool q))
          rw [hf.put (hw d (by simp [At.writes])) (fun q o ht => by cases ht)] at this
          rw [← hf2.kill]
          exact this.kill ks
    cases g with
    | none =>
      cases hog : o.guard with
      | none => exact on (by rw [hog]; trivial) h
      | some y => rw [hog] at hgm; simp [gmatch] at hgm
    | some y =>
      obtain ⟨c, want⟩ := y
      cases hog : o.guard with
      | none => rw [hog] at hgm; simp [gmatch] at hgm
      | some z =>
        obtain ⟨j, want'⟩ := z
        rw [hog] at hgm
        simp only [gmatch, Bool.and_eq_true, beq_iff_eq] at hgm
        obtain ⟨rfl, hj⟩ := hgm
        simp only [stepI] at h
        obtain ⟨b, hb, h⟩ := Option.bind_eq_some_iff.1 h
        have hts := guard_rel he hb
        split at h
        · rename_i hbw
          subst hbw
          exact on (by rw [hog]; exact ⟨c, hj, hts, by simpa using hown⟩) h
        · rename_i hbw
          cases h
          have hnw : Region.wanted o (yielded ops a.tmps) = false := by
            refine off_wanted hog hj fun v hv => ?_
            rw [hts] at hv; cases hv
            cases b with
            | none => simp
            | some b => simp; intro hb'; exact hbw (by rw [hb'])
          unfold wpOp
          simp only [ho, hnw, Bool.false_eq_true, if_false]
          have hod : o.dst = at_.dst := by
            cases at_ <;> simp [chkAt] at hat <;> simp [At.dst, hat.1]
          rw [hod]
          refine hK _ w φ ψ ?_ hH hx (put_defers _ _ _) (fun p hp => put_other fun h => hp (dst_writes h)) (fun b cs hb => ⟨hb.1, fun p c hp => hb.2 p c ?_⟩)
          rotate_left
          · cases hdst : at_.dst with
            | none => rw [hdst] at hp; exact hp
            | some d =>
              rw [hdst] at hp
              have : (e.put d off)[p]? = some (.loc c) := by rw [hf.put (hw d (dst_writes (by simp [hdst]))) (fun q o ht => by cases ht)]; exact hp
              exact locs_put (fun c hc => by cases hc) this
          cases hdst : at_.dst with
          | none => exact he
          | some d =>
            have := he.put d (t := off) (x := undef) (.tuple .nil)
            rwa [hf.put (hw d (dst_writes (by simp [hdst]))) (fun q o ht => by cases ht)] at this
  · cases hc
end

/-! ### the whole region -/
def bef (ops : Array Oper) (y k : Nat) : Bool := ((Region.before ops).getD y 0).testBit k
def chkPre (ops : Array Oper) : List It → List It → Bool
  | _, [] => true
  | pre, y :: ys => (match ops[y.i]? with
    | some o => o.after.toList.all (fun ed => !Region.binds .any ed || pre.any (fun x => x.i == ed.on)) &&
      (List.range ops.size).all (fun k => !bef ops y.i k || o.after.toList.any (fun ed => Region.binds .any ed && (k == ed.on || bef ops ed.on k)))
    | none => false) && pre.all (fun x => (bef ops y.i x.i || swapOK x y) && apartL x y && !(x.i == y.i)) && chkPre ops (pre ++ [y]) ys
def chkRow (P : Program) (ops : Array Oper) (its : List It) : Bool :=
  its.all (chkIt P ops) && its.length == ops.size && (List.range ops.size).all (fun k => its.any (fun x => x.i == k)) && chkPre ops [] its

theorem chkPre_at {ops : Array Oper} : ∀ {its pre : List It}, chkPre ops pre its = true → ∀ {us vs : List It} {y : It}, its = us ++ y :: vs →
    (∃ o, ops[y.i]? = some o ∧ (∀ ed ∈ o.after, Region.binds .any ed = true → ∃ x ∈ pre ++ us, x.i = ed.on) ∧ (∀ k, k < ops.size → bef ops y.i k = true → ∃ ed ∈ o.after, Region.binds .any ed = true ∧ (k = ed.on ∨ bef ops ed.on k = true))) ∧
    ∀ x ∈ pre ++ us, (bef ops y.i x.i = true ∨ swapOK x y = true) ∧ apartL x y = true ∧ x.i ≠ y.i := by
  intro its
  induction its with
  | nil => intro pre h us vs y he; cases us <;> simp at he
  | cons z zs ih =>
    intro pre h us vs y he
    simp only [chkPre, Bool.and_eq_true] at h
    obtain ⟨⟨h1, h2⟩, h3⟩ := h
    cases us with
    | nil =>
      simp only [List.nil_append, List.cons.injEq] at he
      obtain ⟨rfl, rfl⟩ := he
      simp only [List.append_nil]
      refine ⟨?_, fun x hx => ?_⟩
      · split at h1
        · rename_i o ho
          simp only [Bool.and_eq_true, List.all_eq_true, Bool.or_eq_true, Bool.not_eq_true', List.any_eq_true, beq_iff_eq, List.mem_range] at h1
          refine ⟨o, ho, fun ed hed hb => ?_, fun k hk hb => ?_⟩
          · rcases h1.1 ed (by simpa using hed) with h | h
            · rw [hb] at h; cases h
            · exact h
          · rcases h1.2 k hk with h | ⟨ed, hed, h⟩
            · rw [hb] at h; cases h
            · exact ⟨ed, by simpa using hed, h⟩
        · cases h1
      · have := List.all_eq_true.1 h2 x hx
        simp only [Bool.and_eq_true, Bool.or_eq_true, Bool.not_eq_true', beq_eq_false_iff_ne] at this
        exact ⟨this.1.1, this.1.2, this.2⟩
    | cons u us =>
      simp only [List.cons_append, List.cons.injEq] at he
      obtain ⟨rfl, rfl⟩ := he
      have := ih h3 (us := us) (vs := vs) (y := y) rfl
      simpa using this

def unl (listed : Array Bool) (it : It) : Bool := !listed.getD it.i true

theorem before_pairs {ops : Array Oper} {its : List It} (h : chkPre ops [] its = true) : its.Pairwise (fun a b => apartL a b = true ∧ a.i ≠ b.i) := by
  have : ∀ (zs pre : List It), its = pre ++ zs → zs.Pairwise (fun a b => apartL a b = true ∧ a.i ≠ b.i) ∧ ∀ x ∈ pre, ∀ z ∈ zs, apartL x z = true ∧ x.i ≠ z.i := by
    intro zs
    induction zs with
    | nil => intro pre _; exact ⟨.nil, fun x _ z hz => by simp at hz⟩
    | cons z zs ih =>
      intro pre he
      have h1 := chkPre_at h (us := pre) (vs := zs) (y := z) he
      obtain ⟨h2, h3⟩ := ih (pre ++ [z]) (by simp [he])
      refine ⟨List.pairwise_cons.2 ⟨fun b hb => h3 z (by simp) b hb, h2⟩, fun x hx b hb => ?_⟩
      rcases List.mem_cons.1 hb with rfl | hb
      · exact (h1.2 x (by simpa using hx)).2
      · exact h3 x (by simp [hx]) b hb
  exact (this its [] rfl).1
end Go.Proofs.Ytnnjklkfcleleaa.Vm
