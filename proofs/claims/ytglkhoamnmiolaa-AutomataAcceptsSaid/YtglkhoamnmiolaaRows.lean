/-
  No cell of these rows narrows 'for every input' (looked for: loops, veiled, ifaces, maps, wideKeys, modest, calm, conditions, laid).
  DERIVED. THE GIVEN ROWS OF THIS SEAT. 5 by the template 'for every input the law returns true; each argument reads behind the call as it read before'; 0 by the template 'total and deterministic' (their statements: YtglkhoamnmiolaaTotals.lean).
  GIVEN WITH THE SEED: the statements are not yours to turn. If you find one false, say at which input.
  Laid BY PROGRAM, IN A SANDBOX (cutbox-rows.mjs): the forced cells as the released guide's own fill.sh prints them over the translation c1ac6fc45878e41a… (all of the seat's roots in one cut). By AI agents, Wed Nov 11 2026. No macro, syntax, notation, axiom, sorry.
-/
import Derived.Test.YtglkhoamnmiolaaChecked
import GoSem.Claim
import GoSem.ClaimJoined
import GoSem.ClaimMapViews
import Derived.JoinedTies
import Derived.KernelRfl
namespace Go.Proofs.Ytglkhoamnmiolaa
/- THE CELL 'sum', in the pinned program and in every row, IS THE sha256 OF THE DUMP (.gsa) THAT YtglkhoamnmiolaaProg.lean LOADS. Nothing in Lean hashes anything: it is a label: what it is worth is what the hold of that sum in a sandbox is worth. -/
noncomputable def Try.pinned : Pinned := { name := "ytglkhoamnmiolaa", sum := "c1ac6fc45878e41ac365d7f416e2908d86be9d4cb5cbaec9705a0813cd6b5d09", checked := Try.checked }
namespace Rows
def none {H : Type} : Left H := { results := [], args := [] }

/-- 'stutterlaw14.AutomataWords': WHATEVER THE INPUT: true; the input reads as it did. -/
def automataWordsSpec : ChangeSpec := { name := "automataWords", fn := fun _ => fun
  | [d] => { results := [.lit (.bool true)], args := [d] }
  | _ => none }
def automataWordsRow : OpenClaim := { program := "ytglkhoamnmiolaa", sum := "c1ac6fc45878e41ac365d7f416e2908d86be9d4cb5cbaec9705a0813cd6b5d09", func := "stutter/stutterlaw14.AutomataWords", spec := "automataWords", unfollowed := true, recurses := true, apart := false }
def AutomataWordsSaid : Prop := automataWordsRow.holds Try.pinned (OpenSpec.ofChange automataWordsSpec)

/-- ITS FALSE NEIGHBOUR: 'it returns false'. Refute it at one input. -/
def automataWordsWrong : ChangeSpec := { name := "automataWords", fn := fun _ => fun
  | [d] => { results := [.lit (.bool false)], args := [d] }
  | _ => none }
def AutomataWordsWrongFalsely : Prop := automataWordsRow.holds Try.pinned (OpenSpec.ofChange automataWordsWrong)

/-- 'stutterlaw14.AutomataAccepts': WHATEVER THE INPUT: true; the input reads as it did. -/
def automataAcceptsSpec : ChangeSpec := { name := "automataAccepts", fn := fun _ => fun
  | [d1, d2] => { results := [.lit (.bool true)], args := [d1, d2] }
  | _ => none }
def automataAcceptsRow : OpenClaim := { program := "ytglkhoamnmiolaa", sum := "c1ac6fc45878e41ac365d7f416e2908d86be9d4cb5cbaec9705a0813cd6b5d09", func := "stutter/stutterlaw14.AutomataAccepts", spec := "automataAccepts", unfollowed := true, recurses := true, apart := false }
def AutomataAcceptsSaid : Prop := automataAcceptsRow.holds Try.pinned (OpenSpec.ofChange automataAcceptsSpec)

/-- ITS FALSE NEIGHBOUR: 'it returns false'. Refute it at one input. -/
def automataAcceptsWrong : ChangeSpec := { name := "automataAccepts", fn := fun _ => fun
  | [d1, d2] => { results := [.lit (.bool false)], args := [d1, d2] }
  | _ => none }
def AutomataAcceptsWrongFalsely : Prop := automataAcceptsRow.holds Try.pinned (OpenSpec.ofChange automataAcceptsWrong)

/-- 'stutterlaw14.AutomataRuns': WHATEVER THE INPUT: true; the input reads as it did. -/
def automataRunsSpec : ChangeSpec := { name := "automataRuns", fn := fun _ => fun
  | [d1, d2, d3] => { results := [.lit (.bool true)], args := [d1, d2, d3] }
  | _ => none }
def automataRunsRow : OpenClaim := { program := "ytglkhoamnmiolaa", sum := "c1ac6fc45878e41ac365d7f416e2908d86be9d4cb5cbaec9705a0813cd6b5d09", func := "stutter/stutterlaw14.AutomataRuns", spec := "automataRuns", unfollowed := true, recurses := true, apart := false }
def AutomataRunsSaid : Prop := automataRunsRow.holds Try.pinned (OpenSpec.ofChange automataRunsSpec)

/-- ITS FALSE NEIGHBOUR: 'it returns false'. Refute it at one input. -/
def automataRunsWrong : ChangeSpec := { name := "automataRuns", fn := fun _ => fun
  | [d1, d2, d3] => { results := [.lit (.bool false)], args := [d1, d2, d3] }
  | _ => none }
def AutomataRunsWrongFalsely : Prop := automataRunsRow.holds Try.pinned (OpenSpec.ofChange automataRunsWrong)

/-- 'stutterlaw14.AutomataChecks': WHATEVER THE INPUT: true; the input reads as it did. -/
def automataChecksSpec : ChangeSpec := { name := "automataChecks", fn := fun _ => fun
  | [d] => { results := [.lit (.bool true)], args := [d] }
  | _ => none }
def automataChecksRow : OpenClaim := { program := "ytglkhoamnmiolaa", sum := "c1ac6fc45878e41ac365d7f416e2908d86be9d4cb5cbaec9705a0813cd6b5d09", func := "stutter/stutterlaw14.AutomataChecks", spec := "automataChecks", unfollowed := true, recurses := true, apart := false }
def AutomataChecksSaid : Prop := automataChecksRow.holds Try.pinned (OpenSpec.ofChange automataChecksSpec)

/-- ITS FALSE NEIGHBOUR: 'it returns false'. Refute it at one input. -/
def automataChecksWrong : ChangeSpec := { name := "automataChecks", fn := fun _ => fun
  | [d] => { results := [.lit (.bool false)], args := [d] }
  | _ => none }
def AutomataChecksWrongFalsely : Prop := automataChecksRow.holds Try.pinned (OpenSpec.ofChange automataChecksWrong)

/-- 'stutterlaw14.AutomataCombines': WHATEVER THE INPUT: true; the input reads as it did. -/
def automataCombinesSpec : ChangeSpec := { name := "automataCombines", fn := fun _ => fun
  | [d1, d2, d3] => { results := [.lit (.bool true)], args := [d1, d2, d3] }
  | _ => none }
def automataCombinesRow : OpenClaim := { program := "ytglkhoamnmiolaa", sum := "c1ac6fc45878e41ac365d7f416e2908d86be9d4cb5cbaec9705a0813cd6b5d09", func := "stutter/stutterlaw14.AutomataCombines", spec := "automataCombines", unfollowed := true, recurses := true, apart := false }
def AutomataCombinesSaid : Prop := automataCombinesRow.holds Try.pinned (OpenSpec.ofChange automataCombinesSpec)

/-- ITS FALSE NEIGHBOUR: 'it returns false'. Refute it at one input. -/
def automataCombinesWrong : ChangeSpec := { name := "automataCombines", fn := fun _ => fun
  | [d1, d2, d3] => { results := [.lit (.bool false)], args := [d1, d2, d3] }
  | _ => none }
def AutomataCombinesWrongFalsely : Prop := automataCombinesRow.holds Try.pinned (OpenSpec.ofChange automataCombinesWrong)

/- THE SECOND FORM. 'bulk': how many values and letters a reading holds, each counted each time it is reached (what is shared counts as often as it is met; a slice's spare places count too). A statement '..UptoSaid' is the law's where the arguments, and the package variables that the reading takes, are together of bulk at most 1048576: NARROWER than '..Said'. Prove '..Said' where nothing that the law and all that it calls make is longer than what came in: it says more and counts as full. Else prove '..UptoSaid'. A law counts once. -/
mutual
def uptoBulk {H : Type} : DataW H → Nat
  | .lit (.string bytes) => bytes.length + 1
  | .lit _ => 1
  | .nil => 1
  | .ptr d => uptoBulk d + 1
  | .slice elems spare => uptoBulkAll elems + uptoBulkAll spare + 1
  | .agg parts => uptoBulkAll parts + 1
  | .iface _ d => uptoBulk d + 1
  | .map entries => uptoBulkEntries entries + 1
  | .held _ => 1
def uptoBulkAll {H : Type} : List (DataW H) → Nat
  | [] => 0
  | d :: r => uptoBulk d + uptoBulkAll r
def uptoBulkEntries {H : Type} : List (Lit × DataW H) → Nat
  | [] => 0
  | x :: r => uptoBulkEntry x + uptoBulkEntries r
def uptoBulkEntry {H : Type} : Lit × DataW H → Nat
  | (.string bytes, d) => bytes.length + uptoBulk d + 1
  | (_, d) => uptoBulk d + 1
 end
def uptoSmall : (H : Type) → List (DataW H) → Bool := fun _ ds => decide (uptoBulkAll ds ≤ 1048576)
def OpenSpec.upto (s : _root_.Go.ChangeSpec) : _root_.Go.OpenSpec := { _root_.Go.OpenSpec.ofChange s with cond := some uptoSmall }

/-- 'stutterlaw14.AutomataWords', WHERE WHAT IT READS IS OF BULK AT MOST 1048576: true; the input reads as it did. -/
def automataWordsUptoRow : OpenClaim := { program := "ytglkhoamnmiolaa", sum := "c1ac6fc45878e41ac365d7f416e2908d86be9d4cb5cbaec9705a0813cd6b5d09", func := "stutter/stutterlaw14.AutomataWords", spec := "automataWords", unfollowed := true, recurses := true, apart := false, narrowed := true }
def AutomataWordsUptoSaid : Prop := automataWordsUptoRow.holds Try.pinned (OpenSpec.upto automataWordsSpec)

/-- 'stutterlaw14.AutomataAccepts', WHERE WHAT IT READS IS OF BULK AT MOST 1048576: true; the input reads as it did. -/
def automataAcceptsUptoRow : OpenClaim := { program := "ytglkhoamnmiolaa", sum := "c1ac6fc45878e41ac365d7f416e2908d86be9d4cb5cbaec9705a0813cd6b5d09", func := "stutter/stutterlaw14.AutomataAccepts", spec := "automataAccepts", unfollowed := true, recurses := true, apart := false, narrowed := true }
def AutomataAcceptsUptoSaid : Prop := automataAcceptsUptoRow.holds Try.pinned (OpenSpec.upto automataAcceptsSpec)

/-- 'stutterlaw14.AutomataRuns', WHERE WHAT IT READS IS OF BULK AT MOST 1048576: true; the input reads as it did. -/
def automataRunsUptoRow : OpenClaim := { program := "ytglkhoamnmiolaa", sum := "c1ac6fc45878e41ac365d7f416e2908d86be9d4cb5cbaec9705a0813cd6b5d09", func := "stutter/stutterlaw14.AutomataRuns", spec := "automataRuns", unfollowed := true, recurses := true, apart := false, narrowed := true }
def AutomataRunsUptoSaid : Prop := automataRunsUptoRow.holds Try.pinned (OpenSpec.upto automataRunsSpec)

/-- 'stutterlaw14.AutomataChecks', WHERE WHAT IT READS IS OF BULK AT MOST 1048576: true; the input reads as it did. -/
def automataChecksUptoRow : OpenClaim := { program := "ytglkhoamnmiolaa", sum := "c1ac6fc45878e41ac365d7f416e2908d86be9d4cb5cbaec9705a0813cd6b5d09", func := "stutter/stutterlaw14.AutomataChecks", spec := "automataChecks", unfollowed := true, recurses := true, apart := false, narrowed := true }
def AutomataChecksUptoSaid : Prop := automataChecksUptoRow.holds Try.pinned (OpenSpec.upto automataChecksSpec)

/-- 'stutterlaw14.AutomataCombines', WHERE WHAT IT READS IS OF BULK AT MOST 1048576: true; the input reads as it did. -/
def automataCombinesUptoRow : OpenClaim := { program := "ytglkhoamnmiolaa", sum := "c1ac6fc45878e41ac365d7f416e2908d86be9d4cb5cbaec9705a0813cd6b5d09", func := "stutter/stutterlaw14.AutomataCombines", spec := "automataCombines", unfollowed := true, recurses := true, apart := false, narrowed := true }
def AutomataCombinesUptoSaid : Prop := automataCombinesUptoRow.holds Try.pinned (OpenSpec.upto automataCombinesSpec)

end Rows
end Go.Proofs.Ytglkhoamnmiolaa
