/-
  PROVED: for every input the law AutomataAccepts returns true and leaves its arguments as they were. Conditions: none beyond the given statement.
-/
import Derived.Test.YtglkhoamnmiolaaRows
import Derived.Test.YtglkhoamnmiolaaJ3
import Derived.WalkKit
import Derived.ProofKit
import Derived.OpenShut
namespace Go.Proofs.Ytglkhoamnmiolaa.automataAccepts
open Go.ChangeShapes Go.WideShapes Go.ChangeAt Go.RowKit
set_option linter.unusedVariables false

theorem own : ownKnob Try.prog.godebug = none := by kernel_rfl
theorem laid : laidOutB Try.prog = true := by kernel_rfl
theorem recs : (Try.f4.params.toList.all fun t => Try.prog.readableRec t && decide (t < Try.prog.types.size)) = true := by kernel_rfl
def descs : List Vm.PN := [.struct [.int .i64, .sl [.int .i64], .sl [.int .i64, .int .i64, .int .i64, .int .i64], .sl [.sl [.int .i64]]], .struct [.sl [.int .i64], .sl [.int .i64]]]
theorem pts : Try.f4.params.toList.map (Vm.pnOf Try.prog 5) = descs.map some := by kernel_rfl

set_option maxRecDepth 100000 in
theorem lifted (os : Os) (started : os.Started) (H : Type) (enc : TypeId × Value → H) :
    ReturnsInHanded {} Try.checked os 4 .any (Rows.automataAcceptsSpec.pre6 enc Try.prog Try.f4 Rows.automataAcceptsRow.domain false) (Rows.automataAcceptsSpec.post enc Try.prog Try.f4 false true false false) := by
  refine returnsInHanded_of_change (C := Try.checked) own started (by kernel_rfl) Try.func4
    (ChangeSpec.witness6 (enc := enc) (C := Try.checked) false ⟨#[], #[.agg #[.int .i64 0, .slice none 0 0, .slice none 0 0, .slice none 0 0], .agg #[.slice none 0 0, .slice none 0 0]], []⟩ 8 (by kernel_rfl) (by kernel_rfl) (by kernel_rfl) (by kernel_rfl)) ?_
  intro W base args ds gs before hval0 hW hcnd _
  have hval : ∀ (j : Nat) t v, Try.f4.params[j]? = some t → args[j]? = some v → Value.okWide Try.prog W .any base t v := hval0
  have hW' := hW
  obtain ⟨p, q, hA0, hV, _, _, _⟩ := hW
  have hA : DataW.TrodAll enc Try.prog W 0 (fun _ => true) true Try.f4.params.toList args.toList ds p := hA0
  have hd : ∀ (i : Nat) t, Try.f4.params.toList[i]? = some t → Vm.pnOf Try.prog 5 t = descs[i]? := fun i t ht => by
    have h1 : (Try.f4.params.toList.map (Vm.pnOf Try.prog 5))[i]? = some (Vm.pnOf Try.prog 5 t) := by rw [List.getElem?_map, ht]; rfl
    rw [pts, List.getElem?_map] at h1
    obtain ⟨d, hd, e⟩ := Option.map_eq_some_iff.1 h1
    rw [hd, e]
  have hdl : descs.length = Try.f4.params.toList.length := by
    have := congrArg List.length pts
    simpa using this.symm
  obtain ⟨H1, φ, vs, hH, _, _, hvs, hin⟩ := Vm.params_inN (d := 5) (b0 := base) (H := Vm.H0) (φ := fun _ => none) Try.f4.params.toList args.toList ds p descs hd hdl hA (fun j t v ht hv => hval j t v (by rw [← Array.getElem?_toList]; exact ht) (by rw [← Array.getElem?_toList]; exact hv)) (Vm.H0_rel W)
  obtain ⟨us, hty, hus⟩ := Vm.paramsN.us (F := fun i => i < H1.next) (fun i h => h) hin
  obtain ⟨H2, h⟩ := R.accepts_law us hty hus
  refine (Vm.law_calls2 (R.ext_ok H1.next) (Vm.progOf_ok R.prog_ok 8 true) (f := 4) (vs := vs) h hH hvs (fun j q hj hq => by rw [hH.dom j hj] at hq; cases hq)).mono fun e W' ⟨he, hb, hz⟩ => ?_
  subst he
  exact ⟨_, rfl, Vm.law_post laid (fun t ht => by have := List.all_eq_true.1 recs t ht; simpa using this) rfl (by kernel_rfl) Try.underlying4 (fun ds h => by
    have h2 : ds.length = 2 := h.trans (by kernel_rfl)
    match ds, h2 with
    | [d1, d2], _ => rfl) hW' hb hz⟩

theorem over : Rows.automataAcceptsRow.holds Try.pinned (OpenSpec.ofChange Rows.automataAcceptsSpec) :=
  OpenClaim.holds_of_wide 4 Try.f4 rfl rfl rfl rfl rfl rfl rfl ⟨rfl, rfl, rfl, rfl, rfl⟩ rfl rfl rfl rfl rfl (by kernel_rfl) Try.func4 (by kernel_rfl)
    (of_decide_eq_true (by kernel_rfl)) (by unfold Func.isWrapper; first | (rw [if_pos (by decide +kernel)]; kernel_rfl) | (rw [if_neg (by decide +kernel)]; exact ⟨rfl, rfl⟩))
    (fun os started H enc _ => lifted os started H enc)

theorem proved : Rows.AutomataAcceptsSaid :=
  over
#print axioms proved
end Go.Proofs.Ytglkhoamnmiolaa.automataAccepts
