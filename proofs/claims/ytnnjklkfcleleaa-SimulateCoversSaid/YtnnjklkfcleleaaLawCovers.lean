/-
  PROVED: for every input the law SimulateCovers returns true and leaves its arguments as they were. Conditions: none beyond the given statement.
-/
import Derived.Test.YtnnjklkfcleleaaRows
import Derived.Test.YtnnjklkfcleleaaWy
import Derived.WalkKit
import Derived.ProofKit
import Derived.OpenShut
namespace Go.Proofs.Ytnnjklkfcleleaa.simulateCovers
open Go.ChangeShapes Go.WideShapes Go.ChangeAt Go.RowKit
set_option linter.unusedVariables false

theorem own : ownKnob Try.prog.godebug = none := by kernel_rfl
theorem laid : laidOutB Try.prog = true := by kernel_rfl
theorem recs : (Try.f9.params.toList.all fun t => Try.prog.readableRec t && decide (t < Try.prog.types.size)) = true := by kernel_rfl
def descs : List Vm.PN := [.struct [.int .i64, .sl [.int .i64], .sl [.int .i64, .int .i64, .int .i64]], .one (.sl [.int .i64, .sl [.int .i64], .bool])]
theorem pts : Try.f9.params.toList.map (Vm.pnOf Try.prog 5) = descs.map some := by kernel_rfl

set_option maxRecDepth 100000 in
theorem lifted (os : Os) (started : os.Started) (H : Type) (enc : TypeId × Value → H) :
    ReturnsInHanded {} Try.checked os 9 .any (Rows.simulateCoversSpec.pre6 enc Try.prog Try.f9 Rows.simulateCoversRow.domain false) (Rows.simulateCoversSpec.post enc Try.prog Try.f9 false true false false) := by
  refine returnsInHanded_of_change (C := Try.checked) own started (by kernel_rfl) Try.func9
    (ChangeSpec.witness6 (enc := enc) (C := Try.checked) false ⟨#[], #[.agg #[.int .i64 0, .slice none 0 0, .slice none 0 0], .slice none 0 0], []⟩ 8 (by kernel_rfl) (by kernel_rfl) (by kernel_rfl) (by kernel_rfl)) ?_
  intro W base args ds gs before hval0 hW hcnd _
  have hval : ∀ (j : Nat) t v, Try.f9.params[j]? = some t → args[j]? = some v → Value.okWide Try.prog W .any base t v := hval0
  have hW' := hW
  obtain ⟨p, q, hA0, hV, _, _, _⟩ := hW
  have hA : DataW.TrodAll enc Try.prog W 0 (fun _ => true) true Try.f9.params.toList args.toList ds p := hA0
  have hd : ∀ (i : Nat) t, Try.f9.params.toList[i]? = some t → Vm.pnOf Try.prog 5 t = descs[i]? := fun i t ht => by
    have h1 : (Try.f9.params.toList.map (Vm.pnOf Try.prog 5))[i]? = some (Vm.pnOf Try.prog 5 t) := by rw [List.getElem?_map, ht]; rfl
    rw [pts, List.getElem?_map] at h1
    obtain ⟨d, hd, e⟩ := Option.map_eq_some_iff.1 h1
    rw [hd, e]
  have hdl : descs.length = Try.f9.params.toList.length := by
    have := congrArg List.length pts
    simpa using this.symm
  obtain ⟨H1, φ, vs, hH, _, _, hvs, hin⟩ := Vm.params_inN (d := 5) (b0 := base) (H := Vm.H0) (φ := fun _ => none) Try.f9.params.toList args.toList ds p descs hd hdl hA (fun j t v ht hv => hval j t v (by rw [← Array.getElem?_toList]; exact ht) (by rw [← Array.getElem?_toList]; exact hv)) (Vm.H0_rel W)
  simp only [descs, Vm.paramsN, Vm.paramN, Vm.rowN, Vm.cellN] at hin
  obtain ⟨_, _, rfl, ⟨_, rfl, _, _, rfl, ⟨p0_0, rfl, _⟩, p0_1, _, rfl, ⟨rp0_1, hp0_1, tp0_1, lp0_1⟩, p0_2, _, rfl, ⟨rp0_2, hp0_2, tp0_2, lp0_2⟩, e0⟩, _, _, rfl, ⟨p1_0, rfl, ⟨rp1_0, hp1_0, tp1_0, lp1_0⟩⟩, ez⟩ := hin
  have e0 : _ = [] := e0
  have ez : _ = [] := ez
  subst e0 ez
  obtain ⟨l, hl, _⟩ := R.ints_ofN hp0_1 (fun r hr => by simp only [Vm.rowN, Vm.cellN]; exact tp0_1 r hr)
  obtain ⟨es, hes, _⟩ := R.eds_ofN hp0_2 (fun r hr => by simp only [Vm.rowN, Vm.cellN]; exact tp0_2 r hr)
  obtain ⟨ps, hps, _⟩ := R.wks_ofN hp1_0 (fun r hr => by simp only [Vm.rowN, Vm.cellN]; exact tp1_0 r hr)
  obtain ⟨H2, h⟩ := R.f9_is (lim := H1.next) (n := p0_0) (Nat.le_refl _) hl hes hps
  refine (Vm.law_calls2 (R.MM_ok H1.next) (Vm.progOf_ok R.prog_ok R.awId true) (f := 9) (vs := [.agg [.int .i64 p0_0, p0_1, p0_2], .c p1_0]) h hH hvs (fun j q hj hq => by rw [hH.dom j hj] at hq; cases hq)).mono fun e W' ⟨he, hb, hz⟩ => ?_
  subst he
  exact ⟨_, rfl, Vm.law_post laid (fun t ht => by have := List.all_eq_true.1 recs t ht; simpa using this) rfl (by kernel_rfl) Try.underlying4 (fun ds h => by
    have h2 : ds.length = 2 := h.trans (by kernel_rfl)
    match ds, h2 with
    | [d1, d2], _ => rfl) hW' hb hz⟩

theorem over : Rows.simulateCoversRow.holds Try.pinned (OpenSpec.ofChange Rows.simulateCoversSpec) :=
  OpenClaim.holds_of_wide 9 Try.f9 rfl rfl rfl rfl rfl rfl rfl ⟨rfl, rfl, rfl, rfl, rfl⟩ rfl rfl rfl rfl rfl (by kernel_rfl) Try.func9 (by kernel_rfl)
    (of_decide_eq_true (by kernel_rfl)) (by unfold Func.isWrapper; first | (rw [if_pos (by decide +kernel)]; kernel_rfl) | (rw [if_neg (by decide +kernel)]; exact ⟨rfl, rfl⟩))
    (fun os started H enc _ => lifted os started H enc)

theorem proved : Rows.SimulateCoversSaid :=
  over
#print axioms proved
end Go.Proofs.Ytnnjklkfcleleaa.simulateCovers
