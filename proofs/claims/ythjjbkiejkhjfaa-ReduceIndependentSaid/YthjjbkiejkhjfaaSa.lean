import Derived.Test.YthjjbkiejkhjfaaRa
import Derived.Test.YthjjbkiejkhjfaaE9
namespace Go.Proofs.Ythjjbkiejkhjfaa.R
open Go Go.Proofs.Ythjjbkiejkhjfaa.Vm
set_option linter.unusedVariables false
set_option linter.unusedSimpArgs false
def seenC (H : Heap) (i o : Nat) (kd : K0) (u : V) : Bool := match (H.ld i o).bind fun x => kd.take x fun y => some (V.c y) with
  | some v => eqV v u
  | none => false
noncomputable def mrun (M : Mach) : RunT := Vm.run M.ext (progOf 10 prog M.out) M.lim
noncomputable def mcall (M : Mach) (f : FuncId) (vs : List V) (H : Heap) : Rs := mrun M f 0 (vs.map .val) H
-- stutter/reduce.open
noncomputable def f61 (M : Mach) (g_0 : Int) (g_1 : C) (g_2 : C) (H : Heap) : Rs := mrun M 61 0 [.val (.agg [(.int .i64 g_0), g_1, g_2])] H
noncomputable def f61_1 (M : Mach) (x : C) (x16 : C) (x17 : Int) (x18 : Int) (H : Heap) : Rs := mrun M 61 1 [.poison, .poison, .poison, .val (.c x), .poison, .poison, .poison, .poison, .poison, .poison, .poison, .poison, .poison, .poison, .poison, .poison, .val (.c x16), .val (.c (.int .i64 x17)), .val (.c (.int .i64 x18)), .poison, .poison, .poison, .poison, .poison, .poison, .poison, .poison, .poison, .poison, .poison, .poison, .poison, .poison, .poison, .poison, .poison, .poison, .poison, .poison, .poison, .poison, .poison, .poison, .poison, .poison, .poison, .poison, .poison, .poison, .poison, .poison, .poison, .poison, .poison, .poison, .poison, .poison, .poison, .poison, .poison, .poison, .poison, .poison, .poison, .poison, .poison, .poison] H
-- stutter/reduce.open
theorem f61_eq (M : Mach) (g_0 : Int) (g_1 : C) (g_2 : C) (H : Heap) : f61 M g_0 g_1 g_2 H =
  (if 0 ≤ g_0 ∧ g_0 ≤ 2 ^ 36 then
  let H1 := Heap.alloc H (.cells 1 (List.replicate (Int.toNat g_0) [.nilSlice]).flatten)
  (if 0 ≤ g_0 ∧ g_0 ≤ 2 ^ 36 then
  let H2 := Heap.alloc H1 (.cells 12 (List.replicate (Int.toNat g_0) [.nilSlice, .nilSlice, .nilSlice, .nilSlice, .nilSlice, .nilSlice, .nilSlice, .nilSlice, .nilSlice, .nilSlice, .nilSlice, .nilSlice]).flatten)
  let H3 := Heap.alloc H2 (.cells 5 [(.int .i64 g_0), g_1, g_2, (.slice H.next 0 (Int.toNat g_0)), (.slice H1.next 0 (Int.toNat g_0))])
  (C.len g_2).bind fun k4 =>
  f61_1 M (.ptr H2.next 0) g_2 ((k4 : Nat) : Int) 0 H3
  else
  none)
  else
  none) := by
  unfold f61 mrun; rw [run_eq]; kernel_rfl
theorem f61_1_eq (M : Mach) (x : C) (x16 : C) (x17 : Int) (x18 : Int) (H : Heap) : f61_1 M x x16 x17 x18 H =
  (if (decide (x18 < x17)) = true then
  (C.elem 3 x16 x18).bind fun q1 =>
  (Heap.ld H q1.1 q1.2).bind fun c2 =>
  (C.asI .i64 c2).bind fun n3 =>
  (Heap.ld H q1.1 (q1.2 + 1)).bind fun c4 =>
  (C.asI .i64 c4).bind fun n5 =>
  (Heap.ld H q1.1 ((q1.2 + 1) + 1)).bind fun c6 =>
  (C.asI .i64 c6).bind fun n7 =>
  (withP x fun i8 o9 =>
  (withP x fun i10 o11 =>
  (Heap.ld H i8 (o9 + 3)).bind fun c12 =>
  (Heap.ld H i10 (o11 + 3)).bind fun c13 =>
  (C.elem 1 c13 n3).bind fun q14 =>
  (Heap.ld H q14.1 q14.2).bind fun c15 =>
  let H16 := Heap.alloc H (.cells 1 [(.int .i64 x18)])
  (Heap.cellsOf H16 1 (.slice H.next 0 1)).bind fun xs17 =>
  (Heap.app M.lim H16 1 c15 xs17 1).bind fun q18 =>
  (if seenC q18.2 i8 (o9 + 3) .c (.c c12) = true then
  (C.elem 1 c12 n3).bind fun q19 =>
  (Heap.st M.lim q18.2 q19.1 q19.2 [q18.1]).bind fun H20 =>
  (withP x fun i21 o22 =>
  (withP x fun i23 o24 =>
  (Heap.ld H20 i21 (o22 + 4)).bind fun c25 =>
  (C.elem 12 c25 n3).bind fun q26 =>
  (Heap.ld H20 i23 (o24 + 4)).bind fun c27 =>
  (C.elem 12 c27 n3).bind fun q28 =>
  (if 0 ≤ n7 ∧ n7 < ((12 : Nat) : Int) then
  (Heap.ld H20 q28.1 (q28.2 + Int.toNat n7 * 1)).bind fun c29 =>
  let H30 := Heap.alloc H20 (.cells 1 [(.int .i64 x18)])
  (Heap.cellsOf H30 1 (.slice H20.next 0 1)).bind fun xs31 =>
  (Heap.app M.lim H30 1 c29 xs31 1).bind fun q32 =>
  (if seenC q32.2 i21 (o22 + 4) .c (.c c25) = true then
  (if 0 ≤ n7 ∧ n7 < ((12 : Nat) : Int) then
  (Heap.st M.lim q32.2 q26.1 (q26.2 + Int.toNat n7 * 1) [q32.1]).bind fun H33 =>
  f61_1 M x x16 x17 (IntKind.wrap .i64 (x18 + 1)) H33
  else
  none)
  else
  none)
  else
  none)))
  else
  none)))
  else
  some ((.c x), H)) := by
  unfold f61_1 mrun; rw [run_eq]; kernel_rfl
end Go.Proofs.Ythjjbkiejkhjfaa.R
