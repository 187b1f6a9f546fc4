/-
  No cell of these rows narrows 'for every input' (looked for: loops, veiled, ifaces, maps, wideKeys, modest, calm, conditions, laid).
  DERIVED. THE GIVEN ROWS OF THIS SEAT. 7 by the template 'for every input the law returns true; each argument reads behind the call as it read before'; 0 by the template 'total and deterministic' (their statements: YthjjbkiejkhjfaaTotals.lean).
  GIVEN WITH THE SEED: the statements are not yours to turn. If you find one false, say at which input.
  Laid BY PROGRAM, IN A SANDBOX (cutbox-rows.mjs): the forced cells as the released guide's own fill.sh prints them over the translation 8ebdd15472ee8b42… (all of the seat's roots in one cut). By AI agents, Wed Nov 11 2026. No macro, syntax, notation, axiom, sorry.
-/
import Derived.Test.YthjjbkiejkhjfaaChecked
import GoSem.Claim
import GoSem.ClaimJoined
import GoSem.ClaimMapViews
import Derived.JoinedTies
import Derived.KernelRfl
namespace Go.Proofs.Ythjjbkiejkhjfaa
/- THE CELL 'sum', in the pinned program and in every row, IS THE sha256 OF THE DUMP (.gsa) THAT YthjjbkiejkhjfaaProg.lean LOADS. Nothing in Lean hashes anything: it is a label: what it is worth is what the hold of that sum in a sandbox is worth. -/
noncomputable def Try.pinned : Pinned := { name := "ythjjbkiejkhjfaa", sum := "8ebdd15472ee8b42b71ec45ff2ec442186c901e63f3b5114785a7af2f6e1b257", checked := Try.checked }
namespace Rows
def none {H : Type} : Left H := { results := [], args := [] }

/-- 'stutterlaw19.ReduceChoices': WHATEVER THE INPUT: true; the input reads as it did. -/
def reduceChoicesSpec : ChangeSpec := { name := "reduceChoices", fn := fun _ => fun
  | [d1, d2, d3] => { results := [.lit (.bool true)], args := [d1, d2, d3] }
  | _ => none }
def reduceChoicesRow : OpenClaim := { program := "ythjjbkiejkhjfaa", sum := "8ebdd15472ee8b42b71ec45ff2ec442186c901e63f3b5114785a7af2f6e1b257", func := "stutter/stutterlaw19.ReduceChoices", spec := "reduceChoices", unfollowed := true, recurses := true, apart := false }
def ReduceChoicesSaid : Prop := reduceChoicesRow.holds Try.pinned (OpenSpec.ofChange reduceChoicesSpec)

/-- ITS FALSE NEIGHBOUR: 'it returns false'. Refute it at one input. -/
def reduceChoicesWrong : ChangeSpec := { name := "reduceChoices", fn := fun _ => fun
  | [d1, d2, d3] => { results := [.lit (.bool false)], args := [d1, d2, d3] }
  | _ => none }
def ReduceChoicesWrongFalsely : Prop := reduceChoicesRow.holds Try.pinned (OpenSpec.ofChange reduceChoicesWrong)

/-- 'stutterlaw19.ReduceGraphs': WHATEVER THE INPUT: true; the input reads as it did. -/
def reduceGraphsSpec : ChangeSpec := { name := "reduceGraphs", fn := fun _ => fun
  | [d1, d2] => { results := [.lit (.bool true)], args := [d1, d2] }
  | _ => none }
def reduceGraphsRow : OpenClaim := { program := "ythjjbkiejkhjfaa", sum := "8ebdd15472ee8b42b71ec45ff2ec442186c901e63f3b5114785a7af2f6e1b257", func := "stutter/stutterlaw19.ReduceGraphs", spec := "reduceGraphs", unfollowed := true, recurses := true, apart := false }
def ReduceGraphsSaid : Prop := reduceGraphsRow.holds Try.pinned (OpenSpec.ofChange reduceGraphsSpec)

/-- ITS FALSE NEIGHBOUR: 'it returns false'. Refute it at one input. -/
def reduceGraphsWrong : ChangeSpec := { name := "reduceGraphs", fn := fun _ => fun
  | [d1, d2] => { results := [.lit (.bool false)], args := [d1, d2] }
  | _ => none }
def ReduceGraphsWrongFalsely : Prop := reduceGraphsRow.holds Try.pinned (OpenSpec.ofChange reduceGraphsWrong)

/-- 'stutterlaw19.ReduceVisible': WHATEVER THE INPUT: true; the input reads as it did. -/
def reduceVisibleSpec : ChangeSpec := { name := "reduceVisible", fn := fun _ => fun
  | [d1, d2] => { results := [.lit (.bool true)], args := [d1, d2] }
  | _ => none }
def reduceVisibleRow : OpenClaim := { program := "ythjjbkiejkhjfaa", sum := "8ebdd15472ee8b42b71ec45ff2ec442186c901e63f3b5114785a7af2f6e1b257", func := "stutter/stutterlaw19.ReduceVisible", spec := "reduceVisible", unfollowed := true, recurses := true, apart := false }
def ReduceVisibleSaid : Prop := reduceVisibleRow.holds Try.pinned (OpenSpec.ofChange reduceVisibleSpec)

/-- ITS FALSE NEIGHBOUR: 'it returns false'. Refute it at one input. -/
def reduceVisibleWrong : ChangeSpec := { name := "reduceVisible", fn := fun _ => fun
  | [d1, d2] => { results := [.lit (.bool false)], args := [d1, d2] }
  | _ => none }
def ReduceVisibleWrongFalsely : Prop := reduceVisibleRow.holds Try.pinned (OpenSpec.ofChange reduceVisibleWrong)

/-- 'stutterlaw19.ReduceIndependent': WHATEVER THE INPUT: true; the input reads as it did. -/
def reduceIndependentSpec : ChangeSpec := { name := "reduceIndependent", fn := fun _ => fun
  | [d1, d2, d3] => { results := [.lit (.bool true)], args := [d1, d2, d3] }
  | _ => none }
def reduceIndependentRow : OpenClaim := { program := "ythjjbkiejkhjfaa", sum := "8ebdd15472ee8b42b71ec45ff2ec442186c901e63f3b5114785a7af2f6e1b257", func := "stutter/stutterlaw19.ReduceIndependent", spec := "reduceIndependent", unfollowed := true, recurses := true, apart := false }
def ReduceIndependentSaid : Prop := reduceIndependentRow.holds Try.pinned (OpenSpec.ofChange reduceIndependentSpec)

/-- ITS FALSE NEIGHBOUR: 'it returns false'. Refute it at one input. -/
def reduceIndependentWrong : ChangeSpec := { name := "reduceIndependent", fn := fun _ => fun
  | [d1, d2, d3] => { results := [.lit (.bool false)], args := [d1, d2, d3] }
  | _ => none }
def ReduceIndependentWrongFalsely : Prop := reduceIndependentRow.holds Try.pinned (OpenSpec.ofChange reduceIndependentWrong)

/-- 'stutterlaw19.ReduceFinds': WHATEVER THE INPUT: true; the input reads as it did. -/
def reduceFindsSpec : ChangeSpec := { name := "reduceFinds", fn := fun _ => fun
  | [d1, d2] => { results := [.lit (.bool true)], args := [d1, d2] }
  | _ => none }
def reduceFindsRow : OpenClaim := { program := "ythjjbkiejkhjfaa", sum := "8ebdd15472ee8b42b71ec45ff2ec442186c901e63f3b5114785a7af2f6e1b257", func := "stutter/stutterlaw19.ReduceFinds", spec := "reduceFinds", unfollowed := true, recurses := true, apart := false }
def ReduceFindsSaid : Prop := reduceFindsRow.holds Try.pinned (OpenSpec.ofChange reduceFindsSpec)

/-- ITS FALSE NEIGHBOUR: 'it returns false'. Refute it at one input. -/
def reduceFindsWrong : ChangeSpec := { name := "reduceFinds", fn := fun _ => fun
  | [d1, d2] => { results := [.lit (.bool false)], args := [d1, d2] }
  | _ => none }
def ReduceFindsWrongFalsely : Prop := reduceFindsRow.holds Try.pinned (OpenSpec.ofChange reduceFindsWrong)

/-- 'stutterlaw19.ReduceTraces': WHATEVER THE INPUT: true; the input reads as it did. -/
def reduceTracesSpec : ChangeSpec := { name := "reduceTraces", fn := fun _ => fun
  | [d1, d2, d3] => { results := [.lit (.bool true)], args := [d1, d2, d3] }
  | _ => none }
def reduceTracesRow : OpenClaim := { program := "ythjjbkiejkhjfaa", sum := "8ebdd15472ee8b42b71ec45ff2ec442186c901e63f3b5114785a7af2f6e1b257", func := "stutter/stutterlaw19.ReduceTraces", spec := "reduceTraces", unfollowed := true, recurses := true, apart := false }
def ReduceTracesSaid : Prop := reduceTracesRow.holds Try.pinned (OpenSpec.ofChange reduceTracesSpec)

/-- ITS FALSE NEIGHBOUR: 'it returns false'. Refute it at one input. -/
def reduceTracesWrong : ChangeSpec := { name := "reduceTraces", fn := fun _ => fun
  | [d1, d2, d3] => { results := [.lit (.bool false)], args := [d1, d2, d3] }
  | _ => none }
def ReduceTracesWrongFalsely : Prop := reduceTracesRow.holds Try.pinned (OpenSpec.ofChange reduceTracesWrong)

/-- 'stutterlaw19.ReduceKeeps': WHATEVER THE INPUT: true; the input reads as it did. -/
def reduceKeepsSpec : ChangeSpec := { name := "reduceKeeps", fn := fun _ => fun
  | [d1, d2, d3] => { results := [.lit (.bool true)], args := [d1, d2, d3] }
  | _ => none }
def reduceKeepsRow : OpenClaim := { program := "ythjjbkiejkhjfaa", sum := "8ebdd15472ee8b42b71ec45ff2ec442186c901e63f3b5114785a7af2f6e1b257", func := "stutter/stutterlaw19.ReduceKeeps", spec := "reduceKeeps", unfollowed := true, recurses := true, apart := false }
def ReduceKeepsSaid : Prop := reduceKeepsRow.holds Try.pinned (OpenSpec.ofChange reduceKeepsSpec)

/-- ITS FALSE NEIGHBOUR: 'it returns false'. Refute it at one input. -/
def reduceKeepsWrong : ChangeSpec := { name := "reduceKeeps", fn := fun _ => fun
  | [d1, d2, d3] => { results := [.lit (.bool false)], args := [d1, d2, d3] }
  | _ => none }
def ReduceKeepsWrongFalsely : Prop := reduceKeepsRow.holds Try.pinned (OpenSpec.ofChange reduceKeepsWrong)

/- THE SECOND FORM. 'bulk': how many values and letters a reading holds, each counted each time it is reached (what is shared counts as often as it is met; a slice's spare places count too). A statement '..UptoSaid' is the law's where the arguments, and the package variables that the reading takes, are together of bulk at most 1048576: NARROWER than '..Said'. Prove '..Said' where nothing that the law and all that it calls make is longer than what came in: it says more and counts as full. Else prove '..UptoSaid'. A law counts once. -/
mutual
def uptoBulk {H : Type} : DataW H → Nat
  | .lit (.string bytes) => bytes.length + 1
  | .lit _ => 1
  | .nil => 1
  | .ptr d => uptoBulk d + 1
  | .slice elems spare => uptoBulkAll elems + uptoBulkAll spare + 1
  | .agg parts => uptoBulkAll parts + 1
  | .iface _ d => uptoBulk d + 1
  | .map entries => uptoBulkEntries entries + 1
  | .held _ => 1
def uptoBulkAll {H : Type} : List (DataW H) → Nat
  | [] => 0
  | d :: r => uptoBulk d + uptoBulkAll r
def uptoBulkEntries {H : Type} : List (Lit × DataW H) → Nat
  | [] => 0
  | x :: r => uptoBulkEntry x + uptoBulkEntries r
def uptoBulkEntry {H : Type} : Lit × DataW H → Nat
  | (.string bytes, d) => bytes.length + uptoBulk d + 1
  | (_, d) => uptoBulk d + 1
 end
def uptoSmall : (H : Type) → List (DataW H) → Bool := fun _ ds => decide (uptoBulkAll ds ≤ 1048576)
def OpenSpec.upto (s : _root_.Go.ChangeSpec) : _root_.Go.OpenSpec := { _root_.Go.OpenSpec.ofChange s with cond := some uptoSmall }

/-- 'stutterlaw19.ReduceChoices', WHERE WHAT IT READS IS OF BULK AT MOST 1048576: true; the input reads as it did. -/
def reduceChoicesUptoRow : OpenClaim := { program := "ythjjbkiejkhjfaa", sum := "8ebdd15472ee8b42b71ec45ff2ec442186c901e63f3b5114785a7af2f6e1b257", func := "stutter/stutterlaw19.ReduceChoices", spec := "reduceChoices", unfollowed := true, recurses := true, apart := false, narrowed := true }
def ReduceChoicesUptoSaid : Prop := reduceChoicesUptoRow.holds Try.pinned (OpenSpec.upto reduceChoicesSpec)

/-- 'stutterlaw19.ReduceGraphs', WHERE WHAT IT READS IS OF BULK AT MOST 1048576: true; the input reads as it did. -/
def reduceGraphsUptoRow : OpenClaim := { program := "ythjjbkiejkhjfaa", sum := "8ebdd15472ee8b42b71ec45ff2ec442186c901e63f3b5114785a7af2f6e1b257", func := "stutter/stutterlaw19.ReduceGraphs", spec := "reduceGraphs", unfollowed := true, recurses := true, apart := false, narrowed := true }
def ReduceGraphsUptoSaid : Prop := reduceGraphsUptoRow.holds Try.pinned (OpenSpec.upto reduceGraphsSpec)

/-- 'stutterlaw19.ReduceVisible', WHERE WHAT IT READS IS OF BULK AT MOST 1048576: true; the input reads as it did. -/
def reduceVisibleUptoRow : OpenClaim := { program := "ythjjbkiejkhjfaa", sum := "8ebdd15472ee8b42b71ec45ff2ec442186c901e63f3b5114785a7af2f6e1b257", func := "stutter/stutterlaw19.ReduceVisible", spec := "reduceVisible", unfollowed := true, recurses := true, apart := false, narrowed := true }
def ReduceVisibleUptoSaid : Prop := reduceVisibleUptoRow.holds Try.pinned (OpenSpec.upto reduceVisibleSpec)

/-- 'stutterlaw19.ReduceIndependent', WHERE WHAT IT READS IS OF BULK AT MOST 1048576: true; the input reads as it did. -/
def reduceIndependentUptoRow : OpenClaim := { program := "ythjjbkiejkhjfaa", sum := "8ebdd15472ee8b42b71ec45ff2ec442186c901e63f3b5114785a7af2f6e1b257", func := "stutter/stutterlaw19.ReduceIndependent", spec := "reduceIndependent", unfollowed := true, recurses := true, apart := false, narrowed := true }
def ReduceIndependentUptoSaid : Prop := reduceIndependentUptoRow.holds Try.pinned (OpenSpec.upto reduceIndependentSpec)

/-- 'stutterlaw19.ReduceFinds', WHERE WHAT IT READS IS OF BULK AT MOST 1048576: true; the input reads as it did. -/
def reduceFindsUptoRow : OpenClaim := { program := "ythjjbkiejkhjfaa", sum := "8ebdd15472ee8b42b71ec45ff2ec442186c901e63f3b5114785a7af2f6e1b257", func := "stutter/stutterlaw19.ReduceFinds", spec := "reduceFinds", unfollowed := true, recurses := true, apart := false, narrowed := true }
def ReduceFindsUptoSaid : Prop := reduceFindsUptoRow.holds Try.pinned (OpenSpec.upto reduceFindsSpec)

/-- 'stutterlaw19.ReduceTraces', WHERE WHAT IT READS IS OF BULK AT MOST 1048576: true; the input reads as it did. -/
def reduceTracesUptoRow : OpenClaim := { program := "ythjjbkiejkhjfaa", sum := "8ebdd15472ee8b42b71ec45ff2ec442186c901e63f3b5114785a7af2f6e1b257", func := "stutter/stutterlaw19.ReduceTraces", spec := "reduceTraces", unfollowed := true, recurses := true, apart := false, narrowed := true }
def ReduceTracesUptoSaid : Prop := reduceTracesUptoRow.holds Try.pinned (OpenSpec.upto reduceTracesSpec)

/-- 'stutterlaw19.ReduceKeeps', WHERE WHAT IT READS IS OF BULK AT MOST 1048576: true; the input reads as it did. -/
def reduceKeepsUptoRow : OpenClaim := { program := "ythjjbkiejkhjfaa", sum := "8ebdd15472ee8b42b71ec45ff2ec442186c901e63f3b5114785a7af2f6e1b257", func := "stutter/stutterlaw19.ReduceKeeps", spec := "reduceKeeps", unfollowed := true, recurses := true, apart := false, narrowed := true }
def ReduceKeepsUptoSaid : Prop := reduceKeepsUptoRow.holds Try.pinned (OpenSpec.upto reduceKeepsSpec)

end Rows
end Go.Proofs.Ythjjbkiejkhjfaa
