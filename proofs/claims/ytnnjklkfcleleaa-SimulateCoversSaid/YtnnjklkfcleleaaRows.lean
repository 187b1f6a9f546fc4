/-
  No cell of these rows narrows 'for every input' (looked for: loops, veiled, ifaces, maps, wideKeys, modest, calm, conditions, laid).
  DERIVED. THE GIVEN ROWS OF THIS SEAT. 7 by the template 'for every input the law returns true; each argument reads behind the call as it read before'; 0 by the template 'total and deterministic' (their statements: YtnnjklkfcleleaaTotals.lean).
  GIVEN WITH THE SEED: the statements are not yours to turn. If you find one false, say at which input.
  Laid BY PROGRAM, IN A SANDBOX (cutbox-rows.mjs): the forced cells as the released guide's own fill.sh prints them over the translation a797ec533d29457d… (all of the seat's roots in one cut). By AI agents, Wed Nov 11 2026. No macro, syntax, notation, axiom, sorry.
-/
import Derived.Test.YtnnjklkfcleleaaChecked
import GoSem.Claim
import GoSem.ClaimJoined
import GoSem.ClaimMapViews
import Derived.JoinedTies
import Derived.KernelRfl
namespace Go.Proofs.Ytnnjklkfcleleaa
/- THE CELL 'sum', in the pinned program and in every row, IS THE sha256 OF THE DUMP (.gsa) THAT YtnnjklkfcleleaaProg.lean LOADS. Nothing in Lean hashes anything: it is a label: what it is worth is what the hold of that sum in a sandbox is worth. -/
noncomputable def Try.pinned : Pinned := { name := "ytnnjklkfcleleaa", sum := "a797ec533d29457d7fe0f00861026a7aef642f3bb7242e652e65ee713d198a13", checked := Try.checked }
namespace Rows
def none {H : Type} : Left H := { results := [], args := [] }

/-- 'stutterlaw20.SimulateNumbers': WHATEVER THE INPUT: true; the input reads as it did. -/
def simulateNumbersSpec : ChangeSpec := { name := "simulateNumbers", fn := fun _ => fun
  | [d1, d2] => { results := [.lit (.bool true)], args := [d1, d2] }
  | _ => none }
def simulateNumbersRow : OpenClaim := { program := "ytnnjklkfcleleaa", sum := "a797ec533d29457d7fe0f00861026a7aef642f3bb7242e652e65ee713d198a13", func := "stutter/stutterlaw20.SimulateNumbers", spec := "simulateNumbers", unfollowed := true, recurses := true, apart := false }
def SimulateNumbersSaid : Prop := simulateNumbersRow.holds Try.pinned (OpenSpec.ofChange simulateNumbersSpec)

/-- ITS FALSE NEIGHBOUR: 'it returns false'. Refute it at one input. -/
def simulateNumbersWrong : ChangeSpec := { name := "simulateNumbers", fn := fun _ => fun
  | [d1, d2] => { results := [.lit (.bool false)], args := [d1, d2] }
  | _ => none }
def SimulateNumbersWrongFalsely : Prop := simulateNumbersRow.holds Try.pinned (OpenSpec.ofChange simulateNumbersWrong)

/-- 'stutterlaw20.SimulateDistances': WHATEVER THE INPUT: true; the input reads as it did. -/
def simulateDistancesSpec : ChangeSpec := { name := "simulateDistances", fn := fun _ => fun
  | [d1, d2] => { results := [.lit (.bool true)], args := [d1, d2] }
  | _ => none }
def simulateDistancesRow : OpenClaim := { program := "ytnnjklkfcleleaa", sum := "a797ec533d29457d7fe0f00861026a7aef642f3bb7242e652e65ee713d198a13", func := "stutter/stutterlaw20.SimulateDistances", spec := "simulateDistances", unfollowed := true, recurses := true, apart := false }
def SimulateDistancesSaid : Prop := simulateDistancesRow.holds Try.pinned (OpenSpec.ofChange simulateDistancesSpec)

/-- ITS FALSE NEIGHBOUR: 'it returns false'. Refute it at one input. -/
def simulateDistancesWrong : ChangeSpec := { name := "simulateDistances", fn := fun _ => fun
  | [d1, d2] => { results := [.lit (.bool false)], args := [d1, d2] }
  | _ => none }
def SimulateDistancesWrongFalsely : Prop := simulateDistancesRow.holds Try.pinned (OpenSpec.ofChange simulateDistancesWrong)

/-- 'stutterlaw20.SimulateBegins': WHATEVER THE INPUT: true; the input reads as it did. -/
def simulateBeginsSpec : ChangeSpec := { name := "simulateBegins", fn := fun _ => fun
  | [d1, d2, d3] => { results := [.lit (.bool true)], args := [d1, d2, d3] }
  | _ => none }
def simulateBeginsRow : OpenClaim := { program := "ytnnjklkfcleleaa", sum := "a797ec533d29457d7fe0f00861026a7aef642f3bb7242e652e65ee713d198a13", func := "stutter/stutterlaw20.SimulateBegins", spec := "simulateBegins", unfollowed := true, recurses := true, apart := false }
def SimulateBeginsSaid : Prop := simulateBeginsRow.holds Try.pinned (OpenSpec.ofChange simulateBeginsSpec)

/-- ITS FALSE NEIGHBOUR: 'it returns false'. Refute it at one input. -/
def simulateBeginsWrong : ChangeSpec := { name := "simulateBegins", fn := fun _ => fun
  | [d1, d2, d3] => { results := [.lit (.bool false)], args := [d1, d2, d3] }
  | _ => none }
def SimulateBeginsWrongFalsely : Prop := simulateBeginsRow.holds Try.pinned (OpenSpec.ofChange simulateBeginsWrong)

/-- 'stutterlaw20.SimulateWalks': WHATEVER THE INPUT: true; the input reads as it did. -/
def simulateWalksSpec : ChangeSpec := { name := "simulateWalks", fn := fun _ => fun
  | [d1, d2, d3] => { results := [.lit (.bool true)], args := [d1, d2, d3] }
  | _ => none }
def simulateWalksRow : OpenClaim := { program := "ytnnjklkfcleleaa", sum := "a797ec533d29457d7fe0f00861026a7aef642f3bb7242e652e65ee713d198a13", func := "stutter/stutterlaw20.SimulateWalks", spec := "simulateWalks", unfollowed := true, recurses := true, apart := false }
def SimulateWalksSaid : Prop := simulateWalksRow.holds Try.pinned (OpenSpec.ofChange simulateWalksSpec)

/-- ITS FALSE NEIGHBOUR: 'it returns false'. Refute it at one input. -/
def simulateWalksWrong : ChangeSpec := { name := "simulateWalks", fn := fun _ => fun
  | [d1, d2, d3] => { results := [.lit (.bool false)], args := [d1, d2, d3] }
  | _ => none }
def SimulateWalksWrongFalsely : Prop := simulateWalksRow.holds Try.pinned (OpenSpec.ofChange simulateWalksWrong)

/-- 'stutterlaw20.SimulateChecks': WHATEVER THE INPUT: true; the input reads as it did. -/
def simulateChecksSpec : ChangeSpec := { name := "simulateChecks", fn := fun _ => fun
  | [d1, d2] => { results := [.lit (.bool true)], args := [d1, d2] }
  | _ => none }
def simulateChecksRow : OpenClaim := { program := "ytnnjklkfcleleaa", sum := "a797ec533d29457d7fe0f00861026a7aef642f3bb7242e652e65ee713d198a13", func := "stutter/stutterlaw20.SimulateChecks", spec := "simulateChecks", unfollowed := true, recurses := true, apart := false }
def SimulateChecksSaid : Prop := simulateChecksRow.holds Try.pinned (OpenSpec.ofChange simulateChecksSpec)

/-- ITS FALSE NEIGHBOUR: 'it returns false'. Refute it at one input. -/
def simulateChecksWrong : ChangeSpec := { name := "simulateChecks", fn := fun _ => fun
  | [d1, d2] => { results := [.lit (.bool false)], args := [d1, d2] }
  | _ => none }
def SimulateChecksWrongFalsely : Prop := simulateChecksRow.holds Try.pinned (OpenSpec.ofChange simulateChecksWrong)

/-- 'stutterlaw20.SimulateTours': WHATEVER THE INPUT: true; the input reads as it did. -/
def simulateToursSpec : ChangeSpec := { name := "simulateTours", fn := fun _ => fun
  | [d1, d2] => { results := [.lit (.bool true)], args := [d1, d2] }
  | _ => none }
def simulateToursRow : OpenClaim := { program := "ytnnjklkfcleleaa", sum := "a797ec533d29457d7fe0f00861026a7aef642f3bb7242e652e65ee713d198a13", func := "stutter/stutterlaw20.SimulateTours", spec := "simulateTours", unfollowed := true, recurses := true, apart := false }
def SimulateToursSaid : Prop := simulateToursRow.holds Try.pinned (OpenSpec.ofChange simulateToursSpec)

/-- ITS FALSE NEIGHBOUR: 'it returns false'. Refute it at one input. -/
def simulateToursWrong : ChangeSpec := { name := "simulateTours", fn := fun _ => fun
  | [d1, d2] => { results := [.lit (.bool false)], args := [d1, d2] }
  | _ => none }
def SimulateToursWrongFalsely : Prop := simulateToursRow.holds Try.pinned (OpenSpec.ofChange simulateToursWrong)

/-- 'stutterlaw20.SimulateCovers': WHATEVER THE INPUT: true; the input reads as it did. -/
def simulateCoversSpec : ChangeSpec := { name := "simulateCovers", fn := fun _ => fun
  | [d1, d2] => { results := [.lit (.bool true)], args := [d1, d2] }
  | _ => none }
def simulateCoversRow : OpenClaim := { program := "ytnnjklkfcleleaa", sum := "a797ec533d29457d7fe0f00861026a7aef642f3bb7242e652e65ee713d198a13", func := "stutter/stutterlaw20.SimulateCovers", spec := "simulateCovers", unfollowed := true, recurses := true, apart := false }
def SimulateCoversSaid : Prop := simulateCoversRow.holds Try.pinned (OpenSpec.ofChange simulateCoversSpec)

/-- ITS FALSE NEIGHBOUR: 'it returns false'. Refute it at one input. -/
def simulateCoversWrong : ChangeSpec := { name := "simulateCovers", fn := fun _ => fun
  | [d1, d2] => { results := [.lit (.bool false)], args := [d1, d2] }
  | _ => none }
def SimulateCoversWrongFalsely : Prop := simulateCoversRow.holds Try.pinned (OpenSpec.ofChange simulateCoversWrong)

/- THE SECOND FORM. 'bulk': how many values and letters a reading holds, each counted each time it is reached (what is shared counts as often as it is met; a slice's spare places count too). A statement '..UptoSaid' is the law's where the arguments, and the package variables that the reading takes, are together of bulk at most 1048576: NARROWER than '..Said'. Prove '..Said' where nothing that the law and all that it calls make is longer than what came in: it says more and counts as full. Else prove '..UptoSaid'. A law counts once. -/
mutual
def uptoBulk {H : Type} : DataW H → Nat
  | .lit (.string bytes) => bytes.length + 1
  | .lit _ => 1
  | .nil => 1
  | .ptr d => uptoBulk d + 1
  | .slice elems spare => uptoBulkAll elems + uptoBulkAll spare + 1
  | .agg parts => uptoBulkAll parts + 1
  | .iface _ d => uptoBulk d + 1
  | .map entries => uptoBulkEntries entries + 1
  | .held _ => 1
def uptoBulkAll {H : Type} : List (DataW H) → Nat
  | [] => 0
  | d :: r => uptoBulk d + uptoBulkAll r
def uptoBulkEntries {H : Type} : List (Lit × DataW H) → Nat
  | [] => 0
  | x :: r => uptoBulkEntry x + uptoBulkEntries r
def uptoBulkEntry {H : Type} : Lit × DataW H → Nat
  | (.string bytes, d) => bytes.length + uptoBulk d + 1
  | (_, d) => uptoBulk d + 1
 end
def uptoSmall : (H : Type) → List (DataW H) → Bool := fun _ ds => decide (uptoBulkAll ds ≤ 1048576)
def OpenSpec.upto (s : _root_.Go.ChangeSpec) : _root_.Go.OpenSpec := { _root_.Go.OpenSpec.ofChange s with cond := some uptoSmall }

/-- 'stutterlaw20.SimulateNumbers', WHERE WHAT IT READS IS OF BULK AT MOST 1048576: true; the input reads as it did. -/
def simulateNumbersUptoRow : OpenClaim := { program := "ytnnjklkfcleleaa", sum := "a797ec533d29457d7fe0f00861026a7aef642f3bb7242e652e65ee713d198a13", func := "stutter/stutterlaw20.SimulateNumbers", spec := "simulateNumbers", unfollowed := true, recurses := true, apart := false, narrowed := true }
def SimulateNumbersUptoSaid : Prop := simulateNumbersUptoRow.holds Try.pinned (OpenSpec.upto simulateNumbersSpec)

/-- 'stutterlaw20.SimulateDistances', WHERE WHAT IT READS IS OF BULK AT MOST 1048576: true; the input reads as it did. -/
def simulateDistancesUptoRow : OpenClaim := { program := "ytnnjklkfcleleaa", sum := "a797ec533d29457d7fe0f00861026a7aef642f3bb7242e652e65ee713d198a13", func := "stutter/stutterlaw20.SimulateDistances", spec := "simulateDistances", unfollowed := true, recurses := true, apart := false, narrowed := true }
def SimulateDistancesUptoSaid : Prop := simulateDistancesUptoRow.holds Try.pinned (OpenSpec.upto simulateDistancesSpec)

/-- 'stutterlaw20.SimulateBegins', WHERE WHAT IT READS IS OF BULK AT MOST 1048576: true; the input reads as it did. -/
def simulateBeginsUptoRow : OpenClaim := { program := "ytnnjklkfcleleaa", sum := "a797ec533d29457d7fe0f00861026a7aef642f3bb7242e652e65ee713d198a13", func := "stutter/stutterlaw20.SimulateBegins", spec := "simulateBegins", unfollowed := true, recurses := true, apart := false, narrowed := true }
def SimulateBeginsUptoSaid : Prop := simulateBeginsUptoRow.holds Try.pinned (OpenSpec.upto simulateBeginsSpec)

/-- 'stutterlaw20.SimulateWalks', WHERE WHAT IT READS IS OF BULK AT MOST 1048576: true; the input reads as it did. -/
def simulateWalksUptoRow : OpenClaim := { program := "ytnnjklkfcleleaa", sum := "a797ec533d29457d7fe0f00861026a7aef642f3bb7242e652e65ee713d198a13", func := "stutter/stutterlaw20.SimulateWalks", spec := "simulateWalks", unfollowed := true, recurses := true, apart := false, narrowed := true }
def SimulateWalksUptoSaid : Prop := simulateWalksUptoRow.holds Try.pinned (OpenSpec.upto simulateWalksSpec)

/-- 'stutterlaw20.SimulateChecks', WHERE WHAT IT READS IS OF BULK AT MOST 1048576: true; the input reads as it did. -/
def simulateChecksUptoRow : OpenClaim := { program := "ytnnjklkfcleleaa", sum := "a797ec533d29457d7fe0f00861026a7aef642f3bb7242e652e65ee713d198a13", func := "stutter/stutterlaw20.SimulateChecks", spec := "simulateChecks", unfollowed := true, recurses := true, apart := false, narrowed := true }
def SimulateChecksUptoSaid : Prop := simulateChecksUptoRow.holds Try.pinned (OpenSpec.upto simulateChecksSpec)

/-- 'stutterlaw20.SimulateTours', WHERE WHAT IT READS IS OF BULK AT MOST 1048576: true; the input reads as it did. -/
def simulateToursUptoRow : OpenClaim := { program := "ytnnjklkfcleleaa", sum := "a797ec533d29457d7fe0f00861026a7aef642f3bb7242e652e65ee713d198a13", func := "stutter/stutterlaw20.SimulateTours", spec := "simulateTours", unfollowed := true, recurses := true, apart := false, narrowed := true }
def SimulateToursUptoSaid : Prop := simulateToursUptoRow.holds Try.pinned (OpenSpec.upto simulateToursSpec)

/-- 'stutterlaw20.SimulateCovers', WHERE WHAT IT READS IS OF BULK AT MOST 1048576: true; the input reads as it did. -/
def simulateCoversUptoRow : OpenClaim := { program := "ytnnjklkfcleleaa", sum := "a797ec533d29457d7fe0f00861026a7aef642f3bb7242e652e65ee713d198a13", func := "stutter/stutterlaw20.SimulateCovers", spec := "simulateCovers", unfollowed := true, recurses := true, apart := false, narrowed := true }
def SimulateCoversUptoSaid : Prop := simulateCoversUptoRow.holds Try.pinned (OpenSpec.upto simulateCoversSpec)

end Rows
end Go.Proofs.Ytnnjklkfcleleaa
