/-
  THE MACHINE WITH ITS OUTSIDE: words for the readable equations.
-/
import Derived.Test.YtnnjklkfcleleaaVi
import Derived.RowKit3
namespace Go.Proofs.Ytnnjklkfcleleaa.Vm
open Go
/-- what is outside, and from where on objects may be written -/
structure Mach where
  ext : FuncId → Env → Heap → Rs
  lim : Nat
  out : Bool
/-- a program without one function, which is then outside -/
def progOf (A : FuncId) (prog : FuncId → Option RFunc) (out : Bool) : FuncId → Option RFunc := fun f => if f = A then (if out = true then none else prog f) else prog f
def withP {R : Type} (x : C) (K : Nat → Nat → Option R) : Option R := match x with
  | .ptr i o => K i o
  | _ => none
/-- who answers answers the same -/
def Le {α : Type} (a b : Option α) : Prop := ∀ r, a = some r → b = some r
theorem Le.refl {α : Type} (a : Option α) : Le a a := fun _ h => h
theorem Le.none {α : Type} (b : Option α) : Le Option.none b := fun _ h => by cases h
theorem Le.bind {α β : Type} {a b : Option α} {f g : α → Option β} (h : Le a b) (k : ∀ x, Le (f x) (g x)) : Le (a.bind f) (b.bind g) := fun r hr => by
  obtain ⟨x, hx, h2⟩ := Option.bind_eq_some_iff.1 hr
  exact Option.bind_eq_some_iff.2 ⟨x, h x hx, k x r h2⟩
theorem Le.ite {α : Type} {c : Prop} [d : Decidable c] {a b a' b' : Option α} (h : Le a a') (k : Le b b') : Le (if c then a else b) (if c then a' else b') := by
  by_cases hc : c
  · rw [if_pos hc, if_pos hc]; exact h
  · rw [if_neg hc, if_neg hc]; exact k
theorem Le.withP {R : Type} {x : C} {K K' : Nat → Nat → Option R} (h : ∀ i o, Le (K i o) (K' i o)) : Le (withP x K) (withP x K') := by
  cases x <;> first | exact h _ _ | exact Le.none _

/-! ### a function without arguments that was found to answer true is put outside -/
theorem progOf_ok {P : Program} {prog : FuncId → Option RFunc} (h : ∀ f rf, prog f = some rf → chkFunc P f rf = true) (A : FuncId) (out : Bool) : ∀ f rf, progOf A prog out f = some rf → chkFunc P f rf = true := fun f rf hf => by
  unfold progOf at hf
  split at hf
  · split at hf
    · cases hf
    · exact h f rf hf
  · exact h f rf hf
def awExt (A : FuncId) : FuncId → Env → Heap → Rs := fun f e H => if f = A then (match e with
  | [] => some (.c (.bool true), H)
  | _ => none) else none
theorem noExt_ok (lim : Nat) (P : Program) : CallOK lim P (fun f vs H => noExt f (vs.map .val) H) := fun f vs H r H' h => by cases h
theorem H0_rel (w : World) : HRel 0 (fun _ => none) H0 w := ⟨Nat.le_refl _, fun _ _ => rfl, fun _ _ h => (by cases h), fun _ _ _ h => (by cases h), fun _ _ h => (by cases h), fun _ _ _ _ _ h => absurd rfl h⟩
/-- all that was there is as it was -/
theorem HRel.kept {lim : Nat} {φ : Phi} {H : Heap} {w w' : World} (h : HRel lim φ H w) (hs : w.heap.size ≤ w'.heap.size) (hk : ∀ b, b < w.heap.size → w'.heap[b]? = w.heap[b]?) : HRel lim φ H w' := by
  refine ⟨h.low, h.dom, fun i p hp => Nat.lt_of_lt_of_le (h.bound i p hp) hs, fun i sz c hg => ?_, fun i es hg => ?_, h.inj⟩
  · obtain ⟨p, A, el, fz, h1, h2, h3⟩ := h.cells i sz c hg
    exact ⟨p, A, el, fz, h1, by rw [hk _ (h.bound _ _ h1)]; exact h2, h3⟩
  · obtain ⟨p, ES, clock, h1, h2, h3⟩ := h.maps i es hg
    exact ⟨p, ES, clock, h1, by rw [hk _ (h.bound _ _ h1)]; exact h2, h3⟩
theorem awExt_ok {P : Program} {prog : FuncId → Option RFunc} (hprog : ∀ f rf, prog f = some rf → chkFunc P f rf = true) {A : FuncId} {H' : Heap} (h : Vm.run noExt prog 0 A 0 [] H0 = some (.c (.bool true), H')) (lim : Nat) :
    CallOK lim P (fun f vs H => awExt A f (vs.map .val) H) := by
  intro f vs H r H2 hr
  unfold awExt at hr
  simp only at hr
  split at hr
  rotate_left
  · cases hr
  rename_i hf
  subst hf
  cases vs with
  | cons v vs => simp at hr
  | nil =>
    simp only [List.map_nil, Option.some.injEq, Prod.mk.injEq] at hr
    obtain ⟨rfl, rfl⟩ := hr
    obtain ⟨k, hk⟩ := (apx_run noExt prog 0 f 0 [] H0).ex _ h
    refine ⟨(calls_ok (noExt_ok 0 P) hprog k f [] H0 _ _ hk).1, fun φ w args hH hvs => ?_⟩
    have ha : args.toList = [] := by
      generalize args.toList = l at hvs
      cases hvs; rfl
    have hc := run_calls (noExt_ok 0 P) hprog (vs := []) h (H0_rel w) (args := args) (by rw [ha]; exact .nil)
    refine hc.mono fun e w' he => ?_
    obtain ⟨v, φ', he, hv, _, hx⟩ := he
    refine ⟨v, φ, he, ?_, hH.kept hx.size (fun b hb => hx.same b hb fun _ _ _ hq => by cases hq), ⟨fun _ _ h => h, fun _ _ h => .inl h, hx.size, fun b hb _ => hx.same b hb fun _ _ _ hq => (by cases hq), hx.os, hx.tape, hx.output, hx.froz⟩⟩
    cases hv with | c hv => cases hv with | bool b => exact .c (.bool _)

/-- where all objects that may be written are new, the world has at most new blocks -/
theorem Ext.grown {lim : Nat} {φ φ' : Phi} {w w' : World} (h : Ext lim φ w φ' w') (hφ : ∀ j q, lim ≤ j → φ j ≠ some q) : RowKit.Grown w w' := by
  refine ⟨⟨h.os, h.output, fun i hi => ?_⟩, h.froz, h.size⟩
  rw [h.same i hi fun j q hj hq => absurd hq (hφ j q hj)]
  cases w.heap[i]? with
  | none => trivial
  | some o => cases o <;> simp
/-- a law that answers true in the machine -/
theorem law_calls {P : Program} {lim : Nat} {ext : FuncId → Env → Heap → Rs} {prog : FuncId → Option RFunc} (hext : CallOK lim P (fun f vs H => ext f (vs.map .val) H)) (hprog : ∀ f rf, prog f = some rf → chkFunc P f rf = true) {f : FuncId} {vs : List V} {H H' : Heap}
    (h : Vm.run ext prog lim f 0 (vs.map .val) H = some (.c (.bool true), H')) {φ : Phi} {w : World} {args : Array Value} (hH : HRel lim φ H w) (hvs : VsRel lim φ vs args.toList) (hφ : ∀ j q, lim ≤ j → φ j ≠ some q) :
    Calls P f args w fun e w' => e = .returned (.bool true) ∧ RowKit.Grown w w' := by
  refine (run_calls hext hprog h hH hvs).mono fun e w' he => ?_
  obtain ⟨v, φ', he, hv, _, hx⟩ := he
  cases hv with | c hv => cases hv with | bool b => exact ⟨he, hx.grown hφ⟩
end Go.Proofs.Ytnnjklkfcleleaa.Vm
