import Derived.Test.YtnnjklkfcleleaaRa
import Derived.Test.YtnnjklkfcleleaaVp
namespace Go.Proofs.Ytnnjklkfcleleaa.R
open Go Go.Proofs.Ytnnjklkfcleleaa.Vm
set_option linter.unusedVariables false
set_option linter.unusedSimpArgs false
noncomputable def mrun (M : Mach) : RunT := Vm.run M.ext (progOf 10 prog M.out) M.lim
noncomputable def mcall (M : Mach) (f : FuncId) (vs : List V) (H : Heap) : Rs := mrun M f 0 (vs.map .val) H
-- stutter/stutterlaw20.SimulateNumbers
noncomputable def f3 (M : Mach) (seed : Int) (count : Int) (H : Heap) : Rs := mrun M 3 0 [.val (.c (.int .i64 seed)), .val (.c (.int .i64 count))] H
-- stutter/stutterlaw20.SimulateDistances
noncomputable def f4 (M : Mach) (g_0 : Int) (g_1 : C) (g_2 : C) (to : Int) (H : Heap) : Rs := mrun M 4 0 [.val (.agg [(.int .i64 g_0), g_1, g_2]), .val (.c (.int .i64 to))] H
-- stutter/stutterlaw20.SimulateBegins
noncomputable def f5 (M : Mach) (g_0 : Int) (g_1 : C) (g_2 : C) (w : C) (x_0 : Int) (x_1 : Int) (H : Heap) : Rs := mrun M 5 0 [.val (.agg [(.int .i64 g_0), g_1, g_2]), .val (.c w), .val (.agg [(.int .i64 x_0), (.int .i64 x_1)])] H
noncomputable def f5_1 (M : Mach) (w : C) (g_0 : Int) (g_1 : C) (g_2 : C) (a_0 : Int) (a_1 : C) (a_2 : Bool) (b_0 : Int) (b_1 : C) (b_2 : Bool) (i : Int) (H : Heap) : Rs := mrun M 5 1 [.poison, .val (.c w), .poison, .loc [(.int .i64 g_0), g_1, g_2], .poison, .poison, .poison, .loc [(.int .i64 a_0), a_1, (.bool a_2)], .poison, .loc [(.int .i64 b_0), b_1, (.bool b_2)], .poison, .val (.c (.int .i64 i)), .poison, .poison, .poison, .poison, .poison, .poison, .poison, .poison, .poison, .poison, .poison, .poison, .poison, .poison, .poison, .poison, .poison, .poison, .poison, .poison, .poison, .poison, .poison, .poison, .poison, .poison, .poison, .poison, .poison, .poison, .poison, .poison, .poison, .poison, .poison, .poison, .poison, .poison, .poison, .poison, .poison, .poison, .poison, .poison, .poison, .poison, .poison, .poison, .poison, .poison, .poison, .poison, .poison, .poison, .poison, .poison, .poison, .poison, .poison, .poison, .poison, .poison, .poison, .poison, .poison, .poison, .poison, .poison, .poison, .poison, .poison, .poison, .poison, .poison, .poison, .poison, .poison, .poison, .poison, .poison, .poison, .poison, .poison, .poison, .poison, .poison, .poison, .poison, .poison, .poison, .poison, .poison, .poison, .poison, .poison, .poison, .poison, .poison, .poison, .poison, .poison, .poison, .poison, .poison, .poison, .poison, .poison, .poison, .poison, .poison, .poison, .poison, .poison, .poison, .poison, .poison, .poison, .poison, .poison, .poison, .poison, .poison, .poison, .poison, .poison, .poison, .poison, .poison, .poison, .poison, .poison, .poison, .poison, .poison, .poison, .poison, .poison, .poison, .poison, .poison, .poison, .poison, .poison, .poison, .poison, .poison, .poison, .poison] H
-- stutter/stutterlaw20.SimulateWalks
noncomputable def f6 (M : Mach) (g_0 : Int) (g_1 : C) (g_2 : C) (w : C) (x_0 : Int) (x_1 : Int) (H : Heap) : Rs := mrun M 6 0 [.val (.agg [(.int .i64 g_0), g_1, g_2]), .val (.c w), .val (.agg [(.int .i64 x_0), (.int .i64 x_1)])] H
noncomputable def f6_1 (M : Mach) (w : C) (g_0 : Int) (g_1 : C) (g_2 : C) (x_0 : Int) (x_1 : Int) (y_0 : Int) (y_1 : C) (y_2 : Bool) (e : Int) (c : Int) (H : Heap) : Rs := mrun M 6 1 [.poison, .val (.c w), .poison, .loc [(.int .i64 g_0), g_1, g_2], .poison, .loc [(.int .i64 x_0), (.int .i64 x_1)], .poison, .loc [(.int .i64 y_0), y_1, (.bool y_2)], .val (.c (.int .i64 e)), .val (.c (.int .i64 c)), .poison, .poison, .poison, .poison, .poison, .poison, .poison, .poison, .poison, .poison, .poison, .poison, .poison, .poison, .poison, .poison, .poison, .poison, .poison, .poison, .poison, .poison, .poison, .poison, .poison, .poison, .poison, .poison, .poison, .poison, .poison, .poison, .poison, .poison, .poison, .poison, .poison, .poison, .poison, .poison, .poison, .poison, .poison, .poison, .poison, .poison, .poison, .poison, .poison, .poison, .poison, .poison, .poison, .poison, .poison, .poison, .poison, .poison, .poison, .poison, .poison, .poison, .poison, .poison, .poison, .poison, .poison, .poison, .poison, .poison, .poison, .poison, .poison, .poison, .poison, .poison, .poison, .poison, .poison, .poison] H
noncomputable def f6_2 (M : Mach) (w : C) (g_0 : Int) (g_1 : C) (g_2 : C) (x_0 : Int) (x_1 : Int) (y_0 : Int) (y_1 : C) (y_2 : Bool) (e : Int) (c : Int) (H : Heap) : Rs := mrun M 6 2 [.poison, .val (.c w), .poison, .loc [(.int .i64 g_0), g_1, g_2], .poison, .loc [(.int .i64 x_0), (.int .i64 x_1)], .poison, .loc [(.int .i64 y_0), y_1, (.bool y_2)], .val (.c (.int .i64 e)), .val (.c (.int .i64 c)), .poison, .poison, .poison, .poison, .poison, .poison, .poison, .poison, .poison, .poison, .poison, .poison, .poison, .poison, .poison, .poison, .poison, .poison, .poison, .poison, .poison, .poison, .poison, .poison, .poison, .poison, .poison, .poison, .poison, .poison, .poison, .poison, .poison, .poison, .poison, .poison, .poison, .poison, .poison, .poison, .poison, .poison, .poison, .poison, .poison, .poison, .poison, .poison, .poison, .poison, .poison, .poison, .poison, .poison, .poison, .poison, .poison, .poison, .poison, .poison, .poison, .poison, .poison, .poison, .poison, .poison, .poison, .poison, .poison, .poison, .poison, .poison, .poison, .poison, .poison, .poison, .poison, .poison, .poison, .poison] H
noncomputable def f6_3 (M : Mach) (w : C) (g_0 : Int) (g_1 : C) (g_2 : C) (x_0 : Int) (x_1 : Int) (y_0 : Int) (y_1 : C) (y_2 : Bool) (e : Int) (c : Int) (H : Heap) : Rs := mrun M 6 3 [.poison, .val (.c w), .poison, .loc [(.int .i64 g_0), g_1, g_2], .poison, .loc [(.int .i64 x_0), (.int .i64 x_1)], .poison, .loc [(.int .i64 y_0), y_1, (.bool y_2)], .val (.c (.int .i64 e)), .val (.c (.int .i64 c)), .poison, .poison, .poison, .poison, .poison, .poison, .poison, .poison, .poison, .poison, .poison, .poison, .poison, .poison, .poison, .poison, .poison, .poison, .poison, .poison, .poison, .poison, .poison, .poison, .poison, .poison, .poison, .poison, .poison, .poison, .poison, .poison, .poison, .poison, .poison, .poison, .poison, .poison, .poison, .poison, .poison, .poison, .poison, .poison, .poison, .poison, .poison, .poison, .poison, .poison, .poison, .poison, .poison, .poison, .poison, .poison, .poison, .poison, .poison, .poison, .poison, .poison, .poison, .poison, .poison, .poison, .poison, .poison, .poison, .poison, .poison, .poison, .poison, .poison, .poison, .poison, .poison, .poison, .poison, .poison] H
noncomputable def f6_4 (M : Mach) (w : C) (g_0 : Int) (g_1 : C) (g_2 : C) (x_0 : Int) (x_1 : Int) (y_0 : Int) (y_1 : C) (y_2 : Bool) (e : Int) (c : Int) (H : Heap) : Rs := mrun M 6 4 [.poison, .val (.c w), .poison, .loc [(.int .i64 g_0), g_1, g_2], .poison, .loc [(.int .i64 x_0), (.int .i64 x_1)], .poison, .loc [(.int .i64 y_0), y_1, (.bool y_2)], .val (.c (.int .i64 e)), .val (.c (.int .i64 c)), .poison, .poison, .poison, .poison, .poison, .poison, .poison, .poison, .poison, .poison, .poison, .poison, .poison, .poison, .poison, .poison, .poison, .poison, .poison, .poison, .poison, .poison, .poison, .poison, .poison, .poison, .poison, .poison, .poison, .poison, .poison, .poison, .poison, .poison, .poison, .poison, .poison, .poison, .poison, .poison, .poison, .poison, .poison, .poison, .poison, .poison, .poison, .poison, .poison, .poison, .poison, .poison, .poison, .poison, .poison, .poison, .poison, .poison, .poison, .poison, .poison, .poison, .poison, .poison, .poison, .poison, .poison, .poison, .poison, .poison, .poison, .poison, .poison, .poison, .poison, .poison, .poison, .poison, .poison, .poison] H
noncomputable def f6_5 (M : Mach) (w : C) (g_0 : Int) (g_1 : C) (g_2 : C) (x_0 : Int) (x_1 : Int) (y_0 : Int) (y_1 : C) (y_2 : Bool) (e : Int) (c : Int) (H : Heap) : Rs := mrun M 6 5 [.poison, .val (.c w), .poison, .loc [(.int .i64 g_0), g_1, g_2], .poison, .loc [(.int .i64 x_0), (.int .i64 x_1)], .poison, .loc [(.int .i64 y_0), y_1, (.bool y_2)], .val (.c (.int .i64 e)), .val (.c (.int .i64 c)), .poison, .poison, .poison, .poison, .poison, .poison, .poison, .poison, .poison, .poison, .poison, .poison, .poison, .poison, .poison, .poison, .poison, .poison, .poison, .poison, .poison, .poison, .poison, .poison, .poison, .poison, .poison, .poison, .poison, .poison, .poison, .poison, .poison, .poison, .poison, .poison, .poison, .poison, .poison, .poison, .poison, .poison, .poison, .poison, .poison, .poison, .poison, .poison, .poison, .poison, .poison, .poison, .poison, .poison, .poison, .poison, .poison, .poison, .poison, .poison, .poison, .poison, .poison, .poison, .poison, .poison, .poison, .poison, .poison, .poison, .poison, .poison, .poison, .poison, .poison, .poison, .poison, .poison, .poison, .poison] H
-- stutter/stutterlaw20.SimulateChecks
noncomputable def f7 (M : Mach) (g_0 : Int) (g_1 : C) (g_2 : C) (x_0 : Int) (x_1 : C) (x_2 : Bool) (H : Heap) : Rs := mrun M 7 0 [.val (.agg [(.int .i64 g_0), g_1, g_2]), .val (.agg [(.int .i64 x_0), x_1, (.bool x_2)])] H
-- stutter/stutterlaw20.SimulateTours
noncomputable def f8 (M : Mach) (g_0 : Int) (g_1 : C) (g_2 : C) (most : Int) (H : Heap) : Rs := mrun M 8 0 [.val (.agg [(.int .i64 g_0), g_1, g_2]), .val (.c (.int .i64 most))] H
noncomputable def f8_1 (M : Mach) (most : Int) (g_0 : Int) (g_1 : C) (g_2 : C) (l : C) (e : Int) (far : C) (all : C) (i : Int) (H : Heap) : Rs := mrun M 8 1 [.poison, .val (.c (.int .i64 most)), .loc [(.int .i64 g_0), g_1, g_2], .poison, .poison, .val (.c l), .val (.c (.int .i64 e)), .val (.c far), .val (.c all), .val (.c (.int .i64 i)), .poison, .poison, .poison, .poison, .poison, .poison, .poison, .poison, .poison, .poison, .poison, .poison, .poison, .poison, .poison, .poison, .poison, .poison, .poison, .poison, .poison, .poison, .poison, .poison, .poison, .poison, .poison, .poison, .poison, .poison, .poison, .poison, .poison, .poison, .poison, .poison, .poison, .poison, .poison, .poison, .poison, .poison, .poison, .poison, .poison, .poison, .poison, .poison, .poison, .poison, .poison, .poison, .poison, .poison, .poison, .poison, .poison, .poison, .poison, .poison, .poison, .poison, .poison, .poison, .poison, .poison, .poison, .poison, .poison, .poison, .poison, .poison, .poison, .poison, .poison, .poison, .poison, .poison, .poison, .poison, .poison, .poison, .poison, .poison, .poison, .poison, .poison, .poison, .poison, .poison, .poison, .poison, .poison, .poison, .poison, .poison, .poison, .poison, .poison, .poison, .poison, .poison, .poison, .poison, .poison, .poison, .poison, .poison, .poison, .poison, .poison, .poison, .poison, .poison, .poison, .poison, .poison, .poison, .poison, .poison, .poison, .poison, .poison, .poison, .poison] H
noncomputable def f8_2 (M : Mach) (most : Int) (g_0 : Int) (g_1 : C) (g_2 : C) (l : C) (i : Int) (H : Heap) : Rs := mrun M 8 2 [.poison, .val (.c (.int .i64 most)), .loc [(.int .i64 g_0), g_1, g_2], .poison, .poison, .val (.c l), .poison, .poison, .poison, .poison, .val (.c (.int .i64 i)), .poison, .poison, .poison, .poison, .poison, .poison, .poison, .poison, .poison, .poison, .poison, .poison, .poison, .poison, .poison, .poison, .poison, .poison, .poison, .poison, .poison, .poison, .poison, .poison, .poison, .poison, .poison, .poison, .poison, .poison, .poison, .poison, .poison, .poison, .poison, .poison, .poison, .poison, .poison, .poison, .poison, .poison, .poison, .poison, .poison, .poison, .poison, .poison, .poison, .poison, .poison, .poison, .poison, .poison, .poison, .poison, .poison, .poison, .poison, .poison, .poison, .poison, .poison, .poison, .poison, .poison, .poison, .poison, .poison, .poison, .poison, .poison, .poison, .poison, .poison, .poison, .poison, .poison, .poison, .poison, .poison, .poison, .poison, .poison, .poison, .poison, .poison, .poison, .poison, .poison, .poison, .poison, .poison, .poison, .poison, .poison, .poison, .poison, .poison, .poison, .poison, .poison, .poison, .poison, .poison, .poison, .poison, .poison, .poison, .poison, .poison, .poison, .poison, .poison, .poison, .poison, .poison, .poison, .poison, .poison, .poison, .poison, .poison, .poison] H
-- stutter/stutterlaw20.SimulateCovers
noncomputable def f9 (M : Mach) (g_0 : Int) (g_1 : C) (g_2 : C) (l : C) (H : Heap) : Rs := mrun M 9 0 [.val (.agg [(.int .i64 g_0), g_1, g_2]), .val (.c l)] H
noncomputable def f9_1 (M : Mach) (l : C) (x_0 : C) (x_1 : C) (visits : Int) (steps : Int) (i : Int) (H : Heap) : Rs := mrun M 9 1 [.poison, .val (.c l), .poison, .poison, .poison, .loc [x_0, x_1], .poison, .poison, .poison, .poison, .poison, .val (.c (.int .i64 visits)), .val (.c (.int .i64 steps)), .val (.c (.int .i64 i)), .poison, .poison, .poison, .poison, .poison, .poison, .poison, .poison, .poison, .poison, .poison, .poison, .poison, .poison, .poison, .poison, .poison, .poison, .poison, .poison, .poison, .poison, .poison, .poison, .poison, .poison, .poison, .poison, .poison, .poison, .poison, .poison, .poison, .poison, .poison, .poison, .poison, .poison, .poison, .poison, .poison, .poison, .poison, .poison, .poison, .poison, .poison, .poison, .poison, .poison, .poison, .poison, .poison, .poison, .poison, .poison, .poison, .poison, .poison, .poison, .poison, .poison, .poison, .poison, .poison, .poison, .poison, .poison, .poison, .poison, .poison, .poison, .poison, .poison, .poison, .poison, .poison, .poison, .poison, .poison, .poison, .poison, .poison, .poison, .poison, .poison, .poison, .poison, .poison, .poison, .poison, .poison, .poison, .poison, .poison, .poison, .poison, .poison, .poison, .poison, .poison, .poison, .poison, .poison, .poison, .poison, .poison, .poison, .poison, .poison, .poison, .poison, .poison, .poison, .poison, .poison, .poison, .poison, .poison, .poison] H
noncomputable def f9_2 (M : Mach) (l : C) (x_0 : C) (x_1 : C) (visits : Int) (steps : Int) (i : Int) (H : Heap) : Rs := mrun M 9 2 [.poison, .val (.c l), .poison, .poison, .poison, .loc [x_0, x_1], .poison, .poison, .poison, .poison, .poison, .val (.c (.int .i64 visits)), .val (.c (.int .i64 steps)), .poison, .val (.c (.int .i64 i)), .poison, .poison, .poison, .poison, .poison, .poison, .poison, .poison, .poison, .poison, .poison, .poison, .poison, .poison, .poison, .poison, .poison, .poison, .poison, .poison, .poison, .poison, .poison, .poison, .poison, .poison, .poison, .poison, .poison, .poison, .poison, .poison, .poison, .poison, .poison, .poison, .poison, .poison, .poison, .poison, .poison, .poison, .poison, .poison, .poison, .poison, .poison, .poison, .poison, .poison, .poison, .poison, .poison, .poison, .poison, .poison, .poison, .poison, .poison, .poison, .poison, .poison, .poison, .poison, .poison, .poison, .poison, .poison, .poison, .poison, .poison, .poison, .poison, .poison, .poison, .poison, .poison, .poison, .poison, .poison, .poison, .poison, .poison, .poison, .poison, .poison, .poison, .poison, .poison, .poison, .poison, .poison, .poison, .poison, .poison, .poison, .poison, .poison, .poison, .poison, .poison, .poison, .poison, .poison, .poison, .poison, .poison, .poison, .poison, .poison, .poison, .poison, .poison, .poison, .poison, .poison, .poison, .poison, .poison] H
-- stutter/stutterlaw20.awake
noncomputable def f10 (M : Mach) (H : Heap) : Rs := mrun M 10 0 [] H
-- stutter/simulate.NumbersOf
noncomputable def f11 (M : Mach) (seed : Int) (count : Int) (H : Heap) : Rs := mrun M 11 0 [.val (.c (.int .i64 seed)), .val (.c (.int .i64 count))] H
noncomputable def f11_1 (M : Mach) (n : C) (out : C) (x22 : Int) (x23 : Int) (H : Heap) : Rs := mrun M 11 1 [.poison, .poison, .poison, .poison, .poison, .poison, .poison, .val (.c n), .val (.c out), .poison, .poison, .poison, .poison, .poison, .poison, .poison, .poison, .poison, .poison, .poison, .poison, .poison, .val (.c (.int .i64 x22)), .val (.c (.int .i64 x23)), .poison, .poison, .poison, .poison, .poison, .poison, .poison, .poison] H
-- stutter/stutterref20.SeedErr
noncomputable def f12 (M : Mach) (seed : Int) (H : Heap) : Rs := mrun M 12 0 [.val (.c (.int .i64 seed))] H
-- stutter/stutterbase.Between
noncomputable def f13 (M : Mach) (n : Int) (low : Int) (high : Int) (H : Heap) : Rs := mrun M 13 0 [.val (.c (.int .i64 n)), .val (.c (.int .i64 low)), .val (.c (.int .i64 high))] H
-- stutter/stutterbase.EqualInts
noncomputable def f14 (M : Mach) (a : C) (b : C) (H : Heap) : Rs := mrun M 14 0 [.val (.c a), .val (.c b)] H
noncomputable def f14_1 (M : Mach) (a : C) (b : C) (i : Int) (H : Heap) : Rs := mrun M 14 1 [.val (.c a), .val (.c b), .poison, .poison, .poison, .val (.c (.int .i64 i)), .poison, .poison, .poison, .poison, .poison, .poison, .poison, .poison, .poison, .poison, .poison, .poison, .poison, .poison, .poison, .poison, .poison, .poison, .poison, .poison] H
-- stutter/stutterref20.Numbers
noncomputable def f15 (M : Mach) (seed : Int) (count : Int) (H : Heap) : Rs := mrun M 15 0 [.val (.c (.int .i64 seed)), .val (.c (.int .i64 count))] H
noncomputable def f15_1 (M : Mach) (seed : Int) (count : Int) (out : C) (i : Int) (H : Heap) : Rs := mrun M 15 1 [.val (.c (.int .i64 seed)), .val (.c (.int .i64 count)), .poison, .poison, .poison, .val (.c out), .val (.c (.int .i64 i)), .poison, .poison, .poison, .poison, .poison, .poison, .poison, .poison, .poison, .poison, .poison, .poison, .poison] H
-- stutter/stutterlaw20.few
noncomputable def f16 (M : Mach) (g_0 : Int) (g_1 : C) (g_2 : C) (H : Heap) : Rs := mrun M 16 0 [.val (.agg [(.int .i64 g_0), g_1, g_2])] H
-- stutter/simulate.DistancesIn
noncomputable def f17 (M : Mach) (g_0 : Int) (g_1 : C) (g_2 : C) (H : Heap) : Rs := mrun M 17 0 [.val (.agg [(.int .i64 g_0), g_1, g_2])] H
-- stutter/stutterbase.OwnGraph
noncomputable def f18 (M : Mach) (g_0 : Int) (g_1 : C) (g_2 : C) (H : Heap) : Rs := mrun M 18 0 [.val (.agg [(.int .i64 g_0), g_1, g_2])] H
-- stutter/simulate.LeastWalk
noncomputable def f19 (M : Mach) (g_0 : Int) (g_1 : C) (g_2 : C) (to : Int) (H : Heap) : Rs := mrun M 19 0 [.val (.agg [(.int .i64 g_0), g_1, g_2]), .val (.c (.int .i64 to))] H
-- stutter/stutterbase.IsGraph
noncomputable def f20 (M : Mach) (g_0 : Int) (g_1 : C) (g_2 : C) (H : Heap) : Rs := mrun M 20 0 [.val (.agg [(.int .i64 g_0), g_1, g_2])] H
noncomputable def f20_1 (M : Mach) (g_0 : Int) (g_1 : C) (g_2 : C) (i : Int) (H : Heap) : Rs := mrun M 20 1 [.poison, .loc [(.int .i64 g_0), g_1, g_2], .poison, .val (.c (.int .i64 i)), .poison, .poison, .poison, .poison, .poison, .poison, .poison, .poison, .poison, .poison, .poison, .poison, .poison, .poison, .poison, .poison, .poison, .poison, .poison, .poison, .poison, .poison, .poison, .poison, .poison, .poison, .poison, .poison, .poison, .poison, .poison, .poison, .poison, .poison, .poison, .poison, .poison, .poison, .poison, .poison, .poison, .poison, .poison, .poison, .poison, .poison, .poison, .poison, .poison, .poison, .poison, .poison, .poison, .poison, .poison, .poison, .poison, .poison, .poison, .poison, .poison, .poison, .poison, .poison, .poison, .poison, .poison, .poison, .poison, .poison, .poison, .poison, .poison, .poison, .poison, .poison, .poison, .poison, .poison, .poison, .poison, .poison, .poison, .poison, .poison, .poison, .poison, .poison, .poison, .poison, .poison, .poison, .poison, .poison, .poison, .poison, .poison, .poison, .poison, .poison, .poison, .poison, .poison, .poison, .poison, .poison] H
noncomputable def f20_2 (M : Mach) (g_0 : Int) (g_1 : C) (g_2 : C) (i : Int) (H : Heap) : Rs := mrun M 20 2 [.poison, .loc [(.int .i64 g_0), g_1, g_2], .poison, .poison, .val (.c (.int .i64 i)), .poison, .poison, .poison, .poison, .poison, .poison, .poison, .poison, .poison, .poison, .poison, .poison, .poison, .poison, .poison, .poison, .poison, .poison, .poison, .poison, .poison, .poison, .poison, .poison, .poison, .poison, .poison, .poison, .poison, .poison, .poison, .poison, .poison, .poison, .poison, .poison, .poison, .poison, .poison, .poison, .poison, .poison, .poison, .poison, .poison, .poison, .poison, .poison, .poison, .poison, .poison, .poison, .poison, .poison, .poison, .poison, .poison, .poison, .poison, .poison, .poison, .poison, .poison, .poison, .poison, .poison, .poison, .poison, .poison, .poison, .poison, .poison, .poison, .poison, .poison, .poison, .poison, .poison, .poison, .poison, .poison, .poison, .poison, .poison, .poison, .poison, .poison, .poison, .poison, .poison, .poison, .poison, .poison, .poison, .poison, .poison, .poison, .poison, .poison, .poison, .poison, .poison, .poison, .poison, .poison] H
-- stutter/stutterref20.SameWalk
noncomputable def f21 (M : Mach) (a_0 : Int) (a_1 : C) (a_2 : Bool) (b_0 : Int) (b_1 : C) (b_2 : Bool) (H : Heap) : Rs := mrun M 21 0 [.val (.agg [(.int .i64 a_0), a_1, (.bool a_2)]), .val (.agg [(.int .i64 b_0), b_1, (.bool b_2)])] H
-- stutter/stutterref20.Distances
noncomputable def f22 (M : Mach) (g_0 : Int) (g_1 : C) (g_2 : C) (H : Heap) : Rs := mrun M 22 0 [.val (.agg [(.int .i64 g_0), g_1, g_2])] H
noncomputable def f22_1 (M : Mach) (g_0 : Int) (g_1 : C) (g_2 : C) (out : C) (s : Int) (H : Heap) : Rs := mrun M 22 1 [.poison, .loc [(.int .i64 g_0), g_1, g_2], .poison, .val (.c out), .val (.c (.int .i64 s)), .poison, .poison, .poison, .poison, .poison, .poison, .poison, .poison, .poison, .poison, .poison, .poison, .poison, .poison, .poison, .poison, .poison, .poison, .poison, .poison, .poison, .poison, .poison, .poison, .poison, .poison, .poison, .poison, .poison, .poison, .poison, .poison, .poison, .poison, .poison, .poison, .poison, .poison, .poison, .poison, .poison, .poison, .poison, .poison, .poison, .poison, .poison, .poison, .poison, .poison, .poison, .poison, .poison, .poison, .poison, .poison, .poison, .poison] H
noncomputable def f22_2 (M : Mach) (g_0 : Int) (g_1 : C) (g_2 : C) (out : C) (s : Int) (n : Int) (H : Heap) : Rs := mrun M 22 2 [.poison, .loc [(.int .i64 g_0), g_1, g_2], .poison, .val (.c out), .val (.c (.int .i64 s)), .val (.c (.int .i64 n)), .poison, .poison, .poison, .poison, .poison, .poison, .poison, .poison, .poison, .poison, .poison, .poison, .poison, .poison, .poison, .poison, .poison, .poison, .poison, .poison, .poison, .poison, .poison, .poison, .poison, .poison, .poison, .poison, .poison, .poison, .poison, .poison, .poison, .poison, .poison, .poison, .poison, .poison, .poison, .poison, .poison, .poison, .poison, .poison, .poison, .poison, .poison, .poison, .poison, .poison, .poison, .poison, .poison, .poison, .poison, .poison, .poison] H
noncomputable def f22_3 (M : Mach) (g_0 : Int) (g_1 : C) (g_2 : C) (out : C) (far : Int) (H : Heap) : Rs := mrun M 22 3 [.poison, .loc [(.int .i64 g_0), g_1, g_2], .poison, .val (.c out), .poison, .poison, .val (.c (.int .i64 far)), .poison, .poison, .poison, .poison, .poison, .poison, .poison, .poison, .poison, .poison, .poison, .poison, .poison, .poison, .poison, .poison, .poison, .poison, .poison, .poison, .poison, .poison, .poison, .poison, .poison, .poison, .poison, .poison, .poison, .poison, .poison, .poison, .poison, .poison, .poison, .poison, .poison, .poison, .poison, .poison, .poison, .poison, .poison, .poison, .poison, .poison, .poison, .poison, .poison, .poison, .poison, .poison, .poison, .poison, .poison, .poison] H
noncomputable def f22_4 (M : Mach) (g_0 : Int) (g_1 : C) (g_2 : C) (out : C) (far : Int) (i : Int) (H : Heap) : Rs := mrun M 22 4 [.poison, .loc [(.int .i64 g_0), g_1, g_2], .poison, .val (.c out), .poison, .poison, .val (.c (.int .i64 far)), .val (.c (.int .i64 i)), .poison, .poison, .poison, .poison, .poison, .poison, .poison, .poison, .poison, .poison, .poison, .poison, .poison, .poison, .poison, .poison, .poison, .poison, .poison, .poison, .poison, .poison, .poison, .poison, .poison, .poison, .poison, .poison, .poison, .poison, .poison, .poison, .poison, .poison, .poison, .poison, .poison, .poison, .poison, .poison, .poison, .poison, .poison, .poison, .poison, .poison, .poison, .poison, .poison, .poison, .poison, .poison, .poison, .poison, .poison] H
noncomputable def f22_5 (M : Mach) (g_0 : Int) (g_1 : C) (g_2 : C) (out : C) (far : Int) (i : Int) (H : Heap) : Rs := mrun M 22 5 [.poison, .loc [(.int .i64 g_0), g_1, g_2], .poison, .val (.c out), .poison, .poison, .val (.c (.int .i64 far)), .val (.c (.int .i64 i)), .poison, .poison, .poison, .poison, .poison, .poison, .poison, .poison, .poison, .poison, .poison, .poison, .poison, .poison, .poison, .poison, .poison, .poison, .poison, .poison, .poison, .poison, .poison, .poison, .poison, .poison, .poison, .poison, .poison, .poison, .poison, .poison, .poison, .poison, .poison, .poison, .poison, .poison, .poison, .poison, .poison, .poison, .poison, .poison, .poison, .poison, .poison, .poison, .poison, .poison, .poison, .poison, .poison, .poison, .poison] H
-- stutter/stutterref20.Least
noncomputable def f23 (M : Mach) (g_0 : Int) (g_1 : C) (g_2 : C) (to : Int) (H : Heap) : Rs := mrun M 23 0 [.val (.agg [(.int .i64 g_0), g_1, g_2]), .val (.c (.int .i64 to))] H
noncomputable def f23_1 (M : Mach) (to : Int) (g_0 : Int) (g_1 : C) (g_2 : C) (x4_0 : Int) (x4_1 : C) (x4_2 : Bool) (left : C) (s : Int) (H : Heap) : Rs := mrun M 23 1 [.poison, .val (.c (.int .i64 to)), .loc [(.int .i64 g_0), g_1, g_2], .poison, .loc [(.int .i64 x4_0), x4_1, (.bool x4_2)], .val (.c left), .val (.c (.int .i64 s)), .poison, .poison, .poison, .poison, .poison, .poison, .poison, .poison, .poison, .poison, .poison, .poison, .poison, .poison, .poison, .poison, .poison, .poison, .poison, .poison, .poison, .poison, .poison, .poison, .poison, .poison, .poison, .poison, .poison, .poison, .poison, .poison, .poison, .poison, .poison, .poison, .poison, .poison, .poison, .poison, .poison, .poison, .poison, .poison, .poison, .poison, .poison, .poison, .poison, .poison, .poison, .poison, .poison, .poison, .poison, .poison, .poison, .poison, .poison, .poison, .poison, .poison, .poison, .poison, .poison, .poison, .poison, .poison, .poison, .poison, .poison, .poison, .poison, .poison, .poison, .poison, .poison, .poison, .poison, .poison, .poison, .poison, .poison, .poison, .poison, .poison, .poison, .poison, .poison, .poison, .poison, .poison, .poison, .poison, .poison, .poison, .poison, .poison, .poison, .poison, .poison, .poison, .poison, .poison, .poison, .poison, .poison, .poison, .poison, .poison, .poison, .poison, .poison, .poison, .poison, .poison, .poison, .poison, .poison, .poison, .poison, .poison, .poison, .poison, .poison, .poison, .poison, .poison, .poison, .poison, .poison, .poison, .poison, .poison, .poison, .poison, .poison, .poison, .poison, .poison, .poison] H
noncomputable def f23_2 (M : Mach) (to : Int) (g_0 : Int) (g_1 : C) (g_2 : C) (x4_0 : Int) (x4_1 : C) (x4_2 : Bool) (left : C) (far : Int) (H : Heap) : Rs := mrun M 23 2 [.poison, .val (.c (.int .i64 to)), .loc [(.int .i64 g_0), g_1, g_2], .poison, .loc [(.int .i64 x4_0), x4_1, (.bool x4_2)], .val (.c left), .poison, .val (.c (.int .i64 far)), .poison, .poison, .poison, .poison, .poison, .poison, .poison, .poison, .poison, .poison, .poison, .poison, .poison, .poison, .poison, .poison, .poison, .poison, .poison, .poison, .poison, .poison, .poison, .poison, .poison, .poison, .poison, .poison, .poison, .poison, .poison, .poison, .poison, .poison, .poison, .poison, .poison, .poison, .poison, .poison, .poison, .poison, .poison, .poison, .poison, .poison, .poison, .poison, .poison, .poison, .poison, .poison, .poison, .poison, .poison, .poison, .poison, .poison, .poison, .poison, .poison, .poison, .poison, .poison, .poison, .poison, .poison, .poison, .poison, .poison, .poison, .poison, .poison, .poison, .poison, .poison, .poison, .poison, .poison, .poison, .poison, .poison, .poison, .poison, .poison, .poison, .poison, .poison, .poison, .poison, .poison, .poison, .poison, .poison, .poison, .poison, .poison, .poison, .poison, .poison, .poison, .poison, .poison, .poison, .poison, .poison, .poison, .poison, .poison, .poison, .poison, .poison, .poison, .poison, .poison, .poison, .poison, .poison, .poison, .poison, .poison, .poison, .poison, .poison, .poison, .poison, .poison, .poison, .poison, .poison, .poison, .poison, .poison, .poison, .poison, .poison, .poison, .poison, .poison, .poison] H
noncomputable def f23_3 (M : Mach) (to : Int) (g_0 : Int) (g_1 : C) (g_2 : C) (x4_0 : Int) (x4_1 : C) (x4_2 : Bool) (left : C) (far : Int) (i : Int) (H : Heap) : Rs := mrun M 23 3 [.poison, .val (.c (.int .i64 to)), .loc [(.int .i64 g_0), g_1, g_2], .poison, .loc [(.int .i64 x4_0), x4_1, (.bool x4_2)], .val (.c left), .poison, .val (.c (.int .i64 far)), .val (.c (.int .i64 i)), .poison, .poison, .poison, .poison, .poison, .poison, .poison, .poison, .poison, .poison, .poison, .poison, .poison, .poison, .poison, .poison, .poison, .poison, .poison, .poison, .poison, .poison, .poison, .poison, .poison, .poison, .poison, .poison, .poison, .poison, .poison, .poison, .poison, .poison, .poison, .poison, .poison, .poison, .poison, .poison, .poison, .poison, .poison, .poison, .poison, .poison, .poison, .poison, .poison, .poison, .poison, .poison, .poison, .poison, .poison, .poison, .poison, .poison, .poison, .poison, .poison, .poison, .poison, .poison, .poison, .poison, .poison, .poison, .poison, .poison, .poison, .poison, .poison, .poison, .poison, .poison, .poison, .poison, .poison, .poison, .poison, .poison, .poison, .poison, .poison, .poison, .poison, .poison, .poison, .poison, .poison, .poison, .poison, .poison, .poison, .poison, .poison, .poison, .poison, .poison, .poison, .poison, .poison, .poison, .poison, .poison, .poison, .poison, .poison, .poison, .poison, .poison, .poison, .poison, .poison, .poison, .poison, .poison, .poison, .poison, .poison, .poison, .poison, .poison, .poison, .poison, .poison, .poison, .poison, .poison, .poison, .poison, .poison, .poison, .poison, .poison, .poison, .poison, .poison] H
noncomputable def f23_5 (M : Mach) (to : Int) (g_0 : Int) (g_1 : C) (g_2 : C) (x4_0 : Int) (x4_1 : C) (x4_2 : Bool) (left : C) (best : Int) (out_0 : Int) (out_1 : C) (out_2 : Bool) (i : Int) (H : Heap) : Rs := mrun M 23 5 [.poison, .val (.c (.int .i64 to)), .loc [(.int .i64 g_0), g_1, g_2], .poison, .loc [(.int .i64 x4_0), x4_1, (.bool x4_2)], .val (.c left), .poison, .poison, .poison, .poison, .val (.c (.int .i64 best)), .loc [(.int .i64 out_0), out_1, (.bool out_2)], .val (.c (.int .i64 i)), .poison, .poison, .poison, .poison, .poison, .poison, .poison, .poison, .poison, .poison, .poison, .poison, .poison, .poison, .poison, .poison, .poison, .poison, .poison, .poison, .poison, .poison, .poison, .poison, .poison, .poison, .poison, .poison, .poison, .poison, .poison, .poison, .poison, .poison, .poison, .poison, .poison, .poison, .poison, .poison, .poison, .poison, .poison, .poison, .poison, .poison, .poison, .poison, .poison, .poison, .poison, .poison, .poison, .poison, .poison, .poison, .poison, .poison, .poison, .poison, .poison, .poison, .poison, .poison, .poison, .poison, .poison, .poison, .poison, .poison, .poison, .poison, .poison, .poison, .poison, .poison, .poison, .poison, .poison, .poison, .poison, .poison, .poison, .poison, .poison, .poison, .poison, .poison, .poison, .poison, .poison, .poison, .poison, .poison, .poison, .poison, .poison, .poison, .poison, .poison, .poison, .poison, .poison, .poison, .poison, .poison, .poison, .poison, .poison, .poison, .poison, .poison, .poison, .poison, .poison, .poison, .poison, .poison, .poison, .poison, .poison, .poison, .poison, .poison, .poison, .poison, .poison, .poison, .poison, .poison, .poison, .poison, .poison, .poison, .poison] H
noncomputable def f23_4 (M : Mach) (to : Int) (g_0 : Int) (g_1 : C) (g_2 : C) (x4_0 : Int) (x4_1 : C) (x4_2 : Bool) (left : C) (far : Int) (i : Int) (H : Heap) : Rs := mrun M 23 4 [.poison, .val (.c (.int .i64 to)), .loc [(.int .i64 g_0), g_1, g_2], .poison, .loc [(.int .i64 x4_0), x4_1, (.bool x4_2)], .val (.c left), .poison, .val (.c (.int .i64 far)), .val (.c (.int .i64 i)), .poison, .poison, .poison, .poison, .poison, .poison, .poison, .poison, .poison, .poison, .poison, .poison, .poison, .poison, .poison, .poison, .poison, .poison, .poison, .poison, .poison, .poison, .poison, .poison, .poison, .poison, .poison, .poison, .poison, .poison, .poison, .poison, .poison, .poison, .poison, .poison, .poison, .poison, .poison, .poison, .poison, .poison, .poison, .poison, .poison, .poison, .poison, .poison, .poison, .poison, .poison, .poison, .poison, .poison, .poison, .poison, .poison, .poison, .poison, .poison, .poison, .poison, .poison, .poison, .poison, .poison, .poison, .poison, .poison, .poison, .poison, .poison, .poison, .poison, .poison, .poison, .poison, .poison, .poison, .poison, .poison, .poison, .poison, .poison, .poison, .poison, .poison, .poison, .poison, .poison, .poison, .poison, .poison, .poison, .poison, .poison, .poison, .poison, .poison, .poison, .poison, .poison, .poison, .poison, .poison, .poison, .poison, .poison, .poison, .poison, .poison, .poison, .poison, .poison, .poison, .poison, .poison, .poison, .poison, .poison, .poison, .poison, .poison, .poison, .poison, .poison, .poison, .poison, .poison, .poison, .poison, .poison, .poison, .poison, .poison, .poison, .poison, .poison, .poison] H
noncomputable def f23_6 (M : Mach) (to : Int) (g_0 : Int) (g_1 : C) (g_2 : C) (x4_0 : Int) (x4_1 : C) (x4_2 : Bool) (left : C) (out_0 : Int) (out_1 : C) (out_2 : Bool) (s : Int) (H : Heap) : Rs := mrun M 23 6 [.poison, .val (.c (.int .i64 to)), .loc [(.int .i64 g_0), g_1, g_2], .poison, .loc [(.int .i64 x4_0), x4_1, (.bool x4_2)], .val (.c left), .poison, .poison, .poison, .poison, .poison, .loc [(.int .i64 out_0), out_1, (.bool out_2)], .poison, .val (.c (.int .i64 s)), .poison, .poison, .poison, .poison, .poison, .poison, .poison, .poison, .poison, .poison, .poison, .poison, .poison, .poison, .poison, .poison, .poison, .poison, .poison, .poison, .poison, .poison, .poison, .poison, .poison, .poison, .poison, .poison, .poison, .poison, .poison, .poison, .poison, .poison, .poison, .poison, .poison, .poison, .poison, .poison, .poison, .poison, .poison, .poison, .poison, .poison, .poison, .poison, .poison, .poison, .poison, .poison, .poison, .poison, .poison, .poison, .poison, .poison, .poison, .poison, .poison, .poison, .poison, .poison, .poison, .poison, .poison, .poison, .poison, .poison, .poison, .poison, .poison, .poison, .poison, .poison, .poison, .poison, .poison, .poison, .poison, .poison, .poison, .poison, .poison, .poison, .poison, .poison, .poison, .poison, .poison, .poison, .poison, .poison, .poison, .poison, .poison, .poison, .poison, .poison, .poison, .poison, .poison, .poison, .poison, .poison, .poison, .poison, .poison, .poison, .poison, .poison, .poison, .poison, .poison, .poison, .poison, .poison, .poison, .poison, .poison, .poison, .poison, .poison, .poison, .poison, .poison, .poison, .poison, .poison, .poison, .poison, .poison, .poison] H
noncomputable def f23_7 (M : Mach) (to : Int) (g_0 : Int) (g_1 : C) (g_2 : C) (x4_0 : Int) (x4_1 : C) (x4_2 : Bool) (left : C) (out_0 : Int) (out_1 : C) (out_2 : Bool) (s : Int) (i : Int) (H : Heap) : Rs := mrun M 23 7 [.poison, .val (.c (.int .i64 to)), .loc [(.int .i64 g_0), g_1, g_2], .poison, .loc [(.int .i64 x4_0), x4_1, (.bool x4_2)], .val (.c left), .poison, .poison, .poison, .poison, .poison, .loc [(.int .i64 out_0), out_1, (.bool out_2)], .poison, .val (.c (.int .i64 s)), .val (.c (.int .i64 i)), .poison, .poison, .poison, .poison, .poison, .poison, .poison, .poison, .poison, .poison, .poison, .poison, .poison, .poison, .poison, .poison, .poison, .poison, .poison, .poison, .poison, .poison, .poison, .poison, .poison, .poison, .poison, .poison, .poison, .poison, .poison, .poison, .poison, .poison, .poison, .poison, .poison, .poison, .poison, .poison, .poison, .poison, .poison, .poison, .poison, .poison, .poison, .poison, .poison, .poison, .poison, .poison, .poison, .poison, .poison, .poison, .poison, .poison, .poison, .poison, .poison, .poison, .poison, .poison, .poison, .poison, .poison, .poison, .poison, .poison, .poison, .poison, .poison, .poison, .poison, .poison, .poison, .poison, .poison, .poison, .poison, .poison, .poison, .poison, .poison, .poison, .poison, .poison, .poison, .poison, .poison, .poison, .poison, .poison, .poison, .poison, .poison, .poison, .poison, .poison, .poison, .poison, .poison, .poison, .poison, .poison, .poison, .poison, .poison, .poison, .poison, .poison, .poison, .poison, .poison, .poison, .poison, .poison, .poison, .poison, .poison, .poison, .poison, .poison, .poison, .poison, .poison, .poison, .poison, .poison, .poison, .poison, .poison] H
-- stutter/stutterref20.WeightsErr
noncomputable def f24 (M : Mach) (w : C) (H : Heap) : Rs := mrun M 24 0 [.val (.c w)] H
noncomputable def f24_1 (M : Mach) (w : C) (i : Int) (H : Heap) : Rs := mrun M 24 1 [.val (.c w), .poison, .poison, .val (.c (.int .i64 i)), .poison, .poison, .poison, .poison, .poison, .poison, .poison, .poison, .poison, .poison, .poison, .poison, .poison, .poison, .poison] H
-- stutter/simulate.WalkOf
noncomputable def f25 (M : Mach) (g_0 : Int) (g_1 : C) (g_2 : C) (w : C) (x_0 : Int) (x_1 : Int) (H : Heap) : Rs := mrun M 25 0 [.val (.agg [(.int .i64 g_0), g_1, g_2]), .val (.c w), .val (.agg [(.int .i64 x_0), (.int .i64 x_1)])] H
noncomputable def f25_1 (M : Mach) (w : C) (g_0 : Int) (g_1 : C) (g_2 : C) (x_0 : Int) (x_1 : Int) (x6_0 : Int) (x6_1 : C) (x6_2 : Bool) (n : C) (out : C) (vat : Int) (walk_0 : Int) (walk_1 : C) (walk_2 : Bool) (H : Heap) : Rs := mrun M 25 1 [.poison, .val (.c w), .poison, .loc [(.int .i64 g_0), g_1, g_2], .poison, .loc [(.int .i64 x_0), (.int .i64 x_1)], .loc [(.int .i64 x6_0), x6_1, (.bool x6_2)], .poison, .poison, .val (.c n), .val (.c out), .val (.c (.int .i64 vat)), .loc [(.int .i64 walk_0), walk_1, (.bool walk_2)], .poison, .poison, .poison, .poison, .poison, .poison, .poison, .poison, .poison, .poison, .poison, .poison, .poison, .poison, .poison, .poison, .poison, .poison, .poison, .poison, .poison, .poison, .poison, .poison, .poison, .poison, .poison, .poison, .poison, .poison, .poison, .poison, .poison, .poison, .poison, .poison, .poison, .poison, .poison, .poison, .poison, .poison, .poison, .poison, .poison, .poison, .poison, .poison, .poison, .poison, .poison, .poison, .poison, .poison, .poison, .poison, .poison, .poison, .poison, .poison, .poison, .poison, .poison, .poison, .poison, .poison, .poison, .poison, .poison, .poison, .poison, .poison, .poison, .poison, .poison, .poison, .poison, .poison, .poison, .poison, .poison, .poison, .poison, .poison, .poison, .poison, .poison, .poison, .poison, .poison, .poison, .poison, .poison, .poison, .poison, .poison, .poison, .poison, .poison, .poison, .poison, .poison, .poison, .poison, .poison, .poison, .poison, .poison, .poison, .poison, .poison, .poison, .poison, .poison, .poison, .poison, .poison, .poison, .poison, .poison] H
noncomputable def f25_2 (M : Mach) (w : C) (g_0 : Int) (g_1 : C) (g_2 : C) (x_0 : Int) (x_1 : Int) (x6_0 : Int) (x6_1 : C) (x6_2 : Bool) (n : C) (out : C) (vat : Int) (walk_0 : Int) (walk_1 : C) (walk_2 : Bool) (sum : Int) (x62 : C) (x63 : Int) (x64 : Int) (H : Heap) : Rs := mrun M 25 2 [.poison, .val (.c w), .poison, .loc [(.int .i64 g_0), g_1, g_2], .poison, .loc [(.int .i64 x_0), (.int .i64 x_1)], .loc [(.int .i64 x6_0), x6_1, (.bool x6_2)], .poison, .poison, .val (.c n), .val (.c out), .val (.c (.int .i64 vat)), .loc [(.int .i64 walk_0), walk_1, (.bool walk_2)], .val (.c (.int .i64 sum)), .poison, .poison, .poison, .poison, .poison, .poison, .poison, .poison, .poison, .poison, .poison, .poison, .poison, .poison, .poison, .poison, .poison, .poison, .poison, .poison, .poison, .poison, .poison, .poison, .poison, .poison, .poison, .poison, .poison, .poison, .poison, .poison, .poison, .poison, .poison, .poison, .poison, .poison, .poison, .poison, .poison, .poison, .poison, .poison, .poison, .poison, .poison, .poison, .val (.c x62), .val (.c (.int .i64 x63)), .val (.c (.int .i64 x64)), .poison, .poison, .poison, .poison, .poison, .poison, .poison, .poison, .poison, .poison, .poison, .poison, .poison, .poison, .poison, .poison, .poison, .poison, .poison, .poison, .poison, .poison, .poison, .poison, .poison, .poison, .poison, .poison, .poison, .poison, .poison, .poison, .poison, .poison, .poison, .poison, .poison, .poison, .poison, .poison, .poison, .poison, .poison, .poison, .poison, .poison, .poison, .poison, .poison, .poison, .poison, .poison, .poison, .poison, .poison, .poison, .poison, .poison, .poison, .poison, .poison, .poison, .poison, .poison, .poison, .poison, .poison, .poison] H
noncomputable def f25_3 (M : Mach) (w : C) (g_0 : Int) (g_1 : C) (g_2 : C) (x_0 : Int) (x_1 : Int) (x6_0 : Int) (x6_1 : C) (x6_2 : Bool) (n : C) (out : C) (vat : Int) (walk_0 : Int) (walk_1 : C) (walk_2 : Bool) (left : Int) (x101 : C) (x102 : Int) (x103 : Int) (H : Heap) : Rs := mrun M 25 3 [.poison, .val (.c w), .poison, .loc [(.int .i64 g_0), g_1, g_2], .poison, .loc [(.int .i64 x_0), (.int .i64 x_1)], .loc [(.int .i64 x6_0), x6_1, (.bool x6_2)], .poison, .poison, .val (.c n), .val (.c out), .val (.c (.int .i64 vat)), .loc [(.int .i64 walk_0), walk_1, (.bool walk_2)], .poison, .poison, .poison, .val (.c (.int .i64 left)), .poison, .poison, .poison, .poison, .poison, .poison, .poison, .poison, .poison, .poison, .poison, .poison, .poison, .poison, .poison, .poison, .poison, .poison, .poison, .poison, .poison, .poison, .poison, .poison, .poison, .poison, .poison, .poison, .poison, .poison, .poison, .poison, .poison, .poison, .poison, .poison, .poison, .poison, .poison, .poison, .poison, .poison, .poison, .poison, .poison, .poison, .poison, .poison, .poison, .poison, .poison, .poison, .poison, .poison, .poison, .poison, .poison, .poison, .poison, .poison, .poison, .poison, .poison, .poison, .poison, .poison, .poison, .poison, .poison, .poison, .poison, .poison, .poison, .poison, .poison, .poison, .poison, .poison, .poison, .poison, .poison, .poison, .poison, .poison, .val (.c x101), .val (.c (.int .i64 x102)), .val (.c (.int .i64 x103)), .poison, .poison, .poison, .poison, .poison, .poison, .poison, .poison, .poison, .poison, .poison, .poison, .poison, .poison, .poison, .poison, .poison, .poison, .poison, .poison, .poison, .poison, .poison, .poison, .poison, .poison, .poison, .poison, .poison] H
-- stutter/stutterbase.OwnInts
noncomputable def f26 (M : Mach) (l : C) (H : Heap) : Rs := mrun M 26 0 [.val (.c l)] H
-- stutter/stutterref20.Walk
noncomputable def f27 (M : Mach) (g_0 : Int) (g_1 : C) (g_2 : C) (w : C) (x_0 : Int) (x_1 : Int) (H : Heap) : Rs := mrun M 27 0 [.val (.agg [(.int .i64 g_0), g_1, g_2]), .val (.c w), .val (.agg [(.int .i64 x_0), (.int .i64 x_1)])] H
noncomputable def f27_1 (M : Mach) (w : C) (g_0 : Int) (g_1 : C) (g_2 : C) (x_0 : Int) (x_1 : Int) (x6_0 : Int) (x6_1 : C) (x6_2 : Bool) (l : C) (out_0 : Int) (out_1 : C) (out_2 : Bool) (s : Int) (H : Heap) : Rs := mrun M 27 1 [.poison, .val (.c w), .poison, .loc [(.int .i64 g_0), g_1, g_2], .poison, .loc [(.int .i64 x_0), (.int .i64 x_1)], .loc [(.int .i64 x6_0), x6_1, (.bool x6_2)], .val (.c l), .loc [(.int .i64 out_0), out_1, (.bool out_2)], .val (.c (.int .i64 s)), .poison, .poison, .poison, .poison, .poison, .poison, .poison, .poison, .poison, .poison, .poison, .poison, .poison, .poison, .poison, .poison, .poison, .poison, .poison, .poison, .poison, .poison, .poison, .poison, .poison, .poison, .poison, .poison, .poison, .poison, .poison, .poison, .poison, .poison, .poison, .poison, .poison, .poison, .poison, .poison, .poison, .poison, .poison, .poison, .poison, .poison, .poison, .poison, .poison, .poison, .poison, .poison, .poison, .poison, .poison, .poison, .poison, .poison, .poison, .poison, .poison, .poison, .poison, .poison, .poison, .poison, .poison, .poison, .poison, .poison, .poison, .poison, .poison, .poison, .poison, .poison, .poison, .poison, .poison, .poison, .poison, .poison, .poison, .poison, .poison, .poison, .poison, .poison, .poison, .poison, .poison, .poison, .poison, .poison, .poison, .poison, .poison, .poison, .poison, .poison, .poison, .poison, .poison, .poison, .poison, .poison, .poison, .poison, .poison, .poison, .poison] H
noncomputable def f27_2 (M : Mach) (w : C) (g_0 : Int) (g_1 : C) (g_2 : C) (x_0 : Int) (x_1 : Int) (x6_0 : Int) (x6_1 : C) (x6_2 : Bool) (l : C) (out_0 : Int) (out_1 : C) (out_2 : Bool) (p : C) (n : Int) (k : Int) (H : Heap) : Rs := mrun M 27 2 [.poison, .val (.c w), .poison, .loc [(.int .i64 g_0), g_1, g_2], .poison, .loc [(.int .i64 x_0), (.int .i64 x_1)], .loc [(.int .i64 x6_0), x6_1, (.bool x6_2)], .val (.c l), .loc [(.int .i64 out_0), out_1, (.bool out_2)], .poison, .val (.c p), .poison, .val (.c (.int .i64 n)), .val (.c (.int .i64 k)), .poison, .poison, .poison, .poison, .poison, .poison, .poison, .poison, .poison, .poison, .poison, .poison, .poison, .poison, .poison, .poison, .poison, .poison, .poison, .poison, .poison, .poison, .poison, .poison, .poison, .poison, .poison, .poison, .poison, .poison, .poison, .poison, .poison, .poison, .poison, .poison, .poison, .poison, .poison, .poison, .poison, .poison, .poison, .poison, .poison, .poison, .poison, .poison, .poison, .poison, .poison, .poison, .poison, .poison, .poison, .poison, .poison, .poison, .poison, .poison, .poison, .poison, .poison, .poison, .poison, .poison, .poison, .poison, .poison, .poison, .poison, .poison, .poison, .poison, .poison, .poison, .poison, .poison, .poison, .poison, .poison, .poison, .poison, .poison, .poison, .poison, .poison, .poison, .poison, .poison, .poison, .poison, .poison, .poison, .poison, .poison, .poison, .poison, .poison, .poison, .poison, .poison, .poison, .poison, .poison, .poison, .poison] H
-- stutter/simulate.CheckWalk
noncomputable def f28 (M : Mach) (g_0 : Int) (g_1 : C) (g_2 : C) (x_0 : Int) (x_1 : C) (x_2 : Bool) (H : Heap) : Rs := mrun M 28 0 [.val (.agg [(.int .i64 g_0), g_1, g_2]), .val (.agg [(.int .i64 x_0), x_1, (.bool x_2)])] H
-- stutter/stutterref20.OwnWalk
noncomputable def f29 (M : Mach) (x_0 : Int) (x_1 : C) (x_2 : Bool) (H : Heap) : Rs := mrun M 29 0 [.val (.agg [(.int .i64 x_0), x_1, (.bool x_2)])] H
-- stutter/stutterlaw20.short
noncomputable def f30 (M : Mach) (l : C) (H : Heap) : Rs := mrun M 30 0 [.val (.c l)] H
noncomputable def f30_1 (M : Mach) (l : C) (i : Int) (H : Heap) : Rs := mrun M 30 1 [.val (.c l), .poison, .poison, .val (.c (.int .i64 i)), .poison, .poison, .poison, .poison, .poison, .poison, .poison, .poison, .poison, .poison, .poison, .poison, .poison, .poison, .poison, .poison, .poison, .poison, .poison, .poison, .poison, .poison, .poison, .poison, .poison, .poison, .poison, .poison, .poison, .poison, .poison, .poison, .poison, .poison, .poison, .poison] H
-- stutter/stutterref20.Check
noncomputable def f31 (M : Mach) (g_0 : Int) (g_1 : C) (g_2 : C) (x_0 : Int) (x_1 : C) (x_2 : Bool) (H : Heap) : Rs := mrun M 31 0 [.val (.agg [(.int .i64 g_0), g_1, g_2]), .val (.agg [(.int .i64 x_0), x_1, (.bool x_2)])] H
noncomputable def f31_1 (M : Mach) (g_0 : Int) (g_1 : C) (g_2 : C) (x_0 : Int) (x_1 : C) (x_2 : Bool) (s : Int) (i : Int) (H : Heap) : Rs := mrun M 31 1 [.poison, .poison, .loc [(.int .i64 g_0), g_1, g_2], .loc [(.int .i64 x_0), x_1, (.bool x_2)], .poison, .poison, .val (.c (.int .i64 s)), .val (.c (.int .i64 i)), .poison, .poison, .poison, .poison, .poison, .poison, .poison, .poison, .poison, .poison, .poison, .poison, .poison, .poison, .poison, .poison, .poison, .poison, .poison, .poison, .poison, .poison, .poison, .poison, .poison, .poison, .poison, .poison, .poison, .poison, .poison, .poison, .poison, .poison, .poison, .poison, .poison, .poison, .poison, .poison, .poison, .poison, .poison, .poison, .poison, .poison, .poison, .poison, .poison, .poison, .poison, .poison, .poison, .poison, .poison, .poison] H
-- stutter/simulate.TourOf
noncomputable def f32 (M : Mach) (g_0 : Int) (g_1 : C) (g_2 : C) (most : Int) (H : Heap) : Rs := mrun M 32 0 [.val (.agg [(.int .i64 g_0), g_1, g_2]), .val (.c (.int .i64 most))] H
noncomputable def f32_1 (M : Mach) (most : Int) (g_0 : Int) (g_1 : C) (g_2 : C) (x_0 : Int) (x_1 : C) (x_2 : C) (x_3 : C) (x_4 : C) (all : C) (t : C) (x41 : C) (x42 : Int) (x43 : Int) (H : Heap) : Rs := mrun M 32 1 [.poison, .val (.c (.int .i64 most)), .loc [(.int .i64 g_0), g_1, g_2], .poison, .poison, .poison, .poison, .loc [(.int .i64 x_0), x_1, x_2, x_3, x_4], .val (.c all), .val (.c t), .poison, .poison, .poison, .poison, .poison, .poison, .poison, .poison, .poison, .poison, .poison, .poison, .poison, .poison, .poison, .poison, .poison, .poison, .poison, .poison, .poison, .poison, .poison, .poison, .poison, .poison, .poison, .poison, .poison, .poison, .poison, .val (.c x41), .val (.c (.int .i64 x42)), .val (.c (.int .i64 x43)), .poison, .poison, .poison, .poison, .poison, .poison, .poison, .poison, .poison, .poison, .poison, .poison, .poison, .poison, .poison, .poison, .poison, .poison, .poison, .poison, .poison, .poison, .poison, .poison, .poison, .poison, .poison, .poison, .poison, .poison, .poison, .poison, .poison, .poison, .poison, .poison, .poison, .poison, .poison, .poison, .poison, .poison, .poison, .poison, .poison, .poison, .poison, .poison, .poison, .poison, .poison, .poison, .poison, .poison, .poison, .poison, .poison, .poison, .poison, .poison, .poison, .poison, .poison, .poison, .poison, .poison, .poison, .poison, .poison, .poison, .poison, .poison, .poison, .poison, .poison, .poison, .poison, .poison, .poison, .poison, .poison, .poison, .poison, .poison, .poison] H
noncomputable def f32_2 (M : Mach) (g_0 : Int) (g_1 : C) (g_2 : C) (x_0 : Int) (x_1 : C) (x_2 : C) (x_3 : C) (x_4 : C) (t : C) (out : C) (x65 : C) (x66 : Int) (x67 : Int) (H : Heap) : Rs := mrun M 32 2 [.poison, .poison, .loc [(.int .i64 g_0), g_1, g_2], .poison, .poison, .poison, .poison, .loc [(.int .i64 x_0), x_1, x_2, x_3, x_4], .poison, .val (.c t), .poison, .poison, .val (.c out), .poison, .poison, .poison, .poison, .poison, .poison, .poison, .poison, .poison, .poison, .poison, .poison, .poison, .poison, .poison, .poison, .poison, .poison, .poison, .poison, .poison, .poison, .poison, .poison, .poison, .poison, .poison, .poison, .poison, .poison, .poison, .poison, .poison, .poison, .poison, .poison, .poison, .poison, .poison, .poison, .poison, .poison, .poison, .poison, .poison, .poison, .poison, .poison, .poison, .poison, .poison, .poison, .val (.c x65), .val (.c (.int .i64 x66)), .val (.c (.int .i64 x67)), .poison, .poison, .poison, .poison, .poison, .poison, .poison, .poison, .poison, .poison, .poison, .poison, .poison, .poison, .poison, .poison, .poison, .poison, .poison, .poison, .poison, .poison, .poison, .poison, .poison, .poison, .poison, .poison, .poison, .poison, .poison, .poison, .poison, .poison, .poison, .poison, .poison, .poison, .poison, .poison, .poison, .poison, .poison, .poison, .poison, .poison, .poison, .poison, .poison, .poison, .poison, .poison, .poison, .poison, .poison, .poison, .poison, .poison, .poison, .poison, .poison] H
noncomputable def f32_3 (M : Mach) (g_0 : Int) (g_1 : C) (g_2 : C) (x_0 : Int) (x_1 : C) (x_2 : C) (x_3 : C) (x_4 : C) (t : C) (out : C) (i : Int) (w : C) (x65 : C) (x66 : Int) (x67 : Int) (x94 : C) (x95 : Int) (x96 : Int) (H : Heap) : Rs := mrun M 32 3 [.poison, .poison, .loc [(.int .i64 g_0), g_1, g_2], .poison, .poison, .poison, .poison, .loc [(.int .i64 x_0), x_1, x_2, x_3, x_4], .poison, .val (.c t), .poison, .poison, .val (.c out), .poison, .val (.c (.int .i64 i)), .poison, .poison, .val (.c w), .poison, .poison, .poison, .poison, .poison, .poison, .poison, .poison, .poison, .poison, .poison, .poison, .poison, .poison, .poison, .poison, .poison, .poison, .poison, .poison, .poison, .poison, .poison, .poison, .poison, .poison, .poison, .poison, .poison, .poison, .poison, .poison, .poison, .poison, .poison, .poison, .poison, .poison, .poison, .poison, .poison, .poison, .poison, .poison, .poison, .poison, .poison, .val (.c x65), .val (.c (.int .i64 x66)), .val (.c (.int .i64 x67)), .poison, .poison, .poison, .poison, .poison, .poison, .poison, .poison, .poison, .poison, .poison, .poison, .poison, .poison, .poison, .poison, .poison, .poison, .poison, .poison, .poison, .poison, .poison, .poison, .poison, .poison, .val (.c x94), .val (.c (.int .i64 x95)), .val (.c (.int .i64 x96)), .poison, .poison, .poison, .poison, .poison, .poison, .poison, .poison, .poison, .poison, .poison, .poison, .poison, .poison, .poison, .poison, .poison, .poison, .poison, .poison, .poison, .poison, .poison, .poison, .poison, .poison, .poison, .poison, .poison, .poison, .poison, .poison] H
-- stutter/stutterref20.Uncovered
noncomputable def f33 (M : Mach) (g_0 : Int) (g_1 : C) (g_2 : C) (l : C) (H : Heap) : Rs := mrun M 33 0 [.val (.agg [(.int .i64 g_0), g_1, g_2]), .val (.c l)] H
noncomputable def f33_1 (M : Mach) (g_0 : Int) (g_1 : C) (g_2 : C) (far : C) (taken_0 : C) (taken_1 : C) (out : C) (i : Int) (H : Heap) : Rs := mrun M 33 1 [.poison, .poison, .loc [(.int .i64 g_0), g_1, g_2], .poison, .poison, .val (.c far), .loc [taken_0, taken_1], .val (.c out), .val (.c (.int .i64 i)), .poison, .poison, .poison, .poison, .poison, .poison, .poison, .poison, .poison, .poison, .poison, .poison, .poison, .poison, .poison, .poison, .poison, .poison, .poison, .poison, .poison, .poison, .poison, .poison, .poison, .poison, .poison, .poison, .poison, .poison, .poison, .poison, .poison, .poison, .poison] H
noncomputable def f33_2 (M : Mach) (g_0 : Int) (g_1 : C) (g_2 : C) (far : C) (taken_0 : C) (taken_1 : C) (out : C) (i : Int) (H : Heap) : Rs := mrun M 33 2 [.poison, .poison, .loc [(.int .i64 g_0), g_1, g_2], .poison, .poison, .val (.c far), .loc [taken_0, taken_1], .val (.c out), .val (.c (.int .i64 i)), .poison, .poison, .poison, .poison, .poison, .poison, .poison, .poison, .poison, .poison, .poison, .poison, .poison, .poison, .poison, .poison, .poison, .poison, .poison, .poison, .poison, .poison, .poison, .poison, .poison, .poison, .poison, .poison, .poison, .poison, .poison, .poison, .poison, .poison, .poison] H
-- stutter/stutterref20.WalksErr
noncomputable def f34 (M : Mach) (g_0 : Int) (g_1 : C) (g_2 : C) (l : C) (H : Heap) : Rs := mrun M 34 0 [.val (.agg [(.int .i64 g_0), g_1, g_2]), .val (.c l)] H
noncomputable def f34_1 (M : Mach) (l : C) (g_0 : Int) (g_1 : C) (g_2 : C) (i : Int) (H : Heap) : Rs := mrun M 34 1 [.poison, .val (.c l), .loc [(.int .i64 g_0), g_1, g_2], .poison, .poison, .val (.c (.int .i64 i)), .poison, .poison, .poison, .poison, .poison, .poison, .poison, .poison, .poison, .poison, .poison, .poison, .poison, .poison, .poison, .poison, .poison, .poison, .poison, .poison, .poison, .poison, .poison, .poison, .poison, .poison] H
-- stutter/stutterref20.Coverage
noncomputable def f35 (M : Mach) (g_0 : Int) (g_1 : C) (g_2 : C) (l : C) (H : Heap) : Rs := mrun M 35 0 [.val (.agg [(.int .i64 g_0), g_1, g_2]), .val (.c l)] H
noncomputable def f35_1 (M : Mach) (l : C) (g_0 : Int) (g_1 : C) (g_2 : C) (x4_0 : C) (x4_1 : C) (out_0 : C) (out_1 : C) (i : Int) (H : Heap) : Rs := mrun M 35 1 [.poison, .val (.c l), .loc [(.int .i64 g_0), g_1, g_2], .poison, .loc [x4_0, x4_1], .loc [out_0, out_1], .val (.c (.int .i64 i)), .poison, .poison, .poison, .poison, .poison, .poison, .poison, .poison, .poison, .poison, .poison, .poison, .poison, .poison, .poison, .poison, .poison, .poison, .poison, .poison, .poison, .poison, .poison, .poison, .poison, .poison, .poison, .poison, .poison, .poison, .poison, .poison, .poison, .poison, .poison, .poison, .poison, .poison, .poison, .poison, .poison, .poison, .poison, .poison, .poison, .poison, .poison, .poison, .poison, .poison, .poison, .poison, .poison, .poison, .poison, .poison, .poison, .poison, .poison, .poison, .poison, .poison, .poison, .poison, .poison, .poison, .poison, .poison, .poison, .poison, .poison, .poison, .poison, .poison, .poison, .poison, .poison, .poison, .poison, .poison, .poison, .poison, .poison] H
noncomputable def f35_2 (M : Mach) (l : C) (g_0 : Int) (g_1 : C) (g_2 : C) (x4_0 : C) (x4_1 : C) (out_0 : C) (out_1 : C) (i : Int) (k : Int) (H : Heap) : Rs := mrun M 35 2 [.poison, .val (.c l), .loc [(.int .i64 g_0), g_1, g_2], .poison, .loc [x4_0, x4_1], .loc [out_0, out_1], .val (.c (.int .i64 i)), .val (.c (.int .i64 k)), .poison, .poison, .poison, .poison, .poison, .poison, .poison, .poison, .poison, .poison, .poison, .poison, .poison, .poison, .poison, .poison, .poison, .poison, .poison, .poison, .poison, .poison, .poison, .poison, .poison, .poison, .poison, .poison, .poison, .poison, .poison, .poison, .poison, .poison, .poison, .poison, .poison, .poison, .poison, .poison, .poison, .poison, .poison, .poison, .poison, .poison, .poison, .poison, .poison, .poison, .poison, .poison, .poison, .poison, .poison, .poison, .poison, .poison, .poison, .poison, .poison, .poison, .poison, .poison, .poison, .poison, .poison, .poison, .poison, .poison, .poison, .poison, .poison, .poison, .poison, .poison, .poison, .poison, .poison, .poison, .poison, .poison] H
-- stutter/simulate.CoverageOf
noncomputable def f36 (M : Mach) (g_0 : Int) (g_1 : C) (g_2 : C) (l : C) (H : Heap) : Rs := mrun M 36 0 [.val (.agg [(.int .i64 g_0), g_1, g_2]), .val (.c l)] H
-- stutter/stutterref20.OwnWalks
noncomputable def f37 (M : Mach) (l : C) (H : Heap) : Rs := mrun M 37 0 [.val (.c l)] H
noncomputable def f37_1 (M : Mach) (l : C) (out : C) (i : Int) (H : Heap) : Rs := mrun M 37 1 [.val (.c l), .poison, .poison, .val (.c out), .val (.c (.int .i64 i)), .poison, .poison, .poison, .poison, .poison, .poison, .poison, .poison, .poison, .poison, .poison, .poison, .poison, .poison, .poison] H
-- stutter/simulate.UncoveredIn
noncomputable def f38 (M : Mach) (g_0 : Int) (g_1 : C) (g_2 : C) (l : C) (H : Heap) : Rs := mrun M 38 0 [.val (.agg [(.int .i64 g_0), g_1, g_2]), .val (.c l)] H
-- stutter/stutterlaw20.Example
noncomputable def f39 (M : Mach) (H : Heap) : Rs := mrun M 39 0 [] H
-- stutter/stutterlaw20.Equal
noncomputable def f40 (M : Mach) (H : Heap) : Rs := mrun M 40 0 [] H
noncomputable def f40_1 (M : Mach) (w : C) (i : Int) (H : Heap) : Rs := mrun M 40 1 [.poison, .val (.c w), .val (.c (.int .i64 i)), .poison, .poison, .poison, .poison, .poison, .poison, .poison, .poison] H
-- stutter/simulate.either
noncomputable def f41 (M : Mach) (l : C) (H : Heap) : Rs := mrun M 41 0 [.val (.c l)] H
noncomputable def f41_1 (M : Mach) (x5 : C) (x6 : Int) (x7 : Int) (H : Heap) : Rs := mrun M 41 1 [.poison, .poison, .poison, .poison, .poison, .val (.c x5), .val (.c (.int .i64 x6)), .val (.c (.int .i64 x7)), .poison, .poison, .poison, .poison, .poison, .poison, .poison] H
-- stutter/simulate.seedErr
noncomputable def f42 (M : Mach) (seed : Int) (H : Heap) : Rs := mrun M 42 0 [.val (.c (.int .i64 seed))] H
-- stutter/simulate.unless
noncomputable def f43 (M : Mach) (holds : Bool) (e : Int) (H : Heap) : Rs := mrun M 43 0 [.val (.c (.bool holds)), .val (.c (.int .i64 e))] H
-- stutter/simulate.in
noncomputable def f44 (M : Mach) (n : Int) (lo : Int) (hi : Int) (H : Heap) : Rs := mrun M 44 0 [.val (.c (.int .i64 n)), .val (.c (.int .i64 lo)), .val (.c (.int .i64 hi))] H
-- (*stutter/simulate.numbers).next
noncomputable def f45 (M : Mach) (n : C) (H : Heap) : Rs := mrun M 45 0 [.val (.c n)] H
-- stutter/simulate.graphErr
noncomputable def f46 (M : Mach) (g_0 : Int) (g_1 : C) (g_2 : C) (H : Heap) : Rs := mrun M 46 0 [.val (.agg [(.int .i64 g_0), g_1, g_2])] H
noncomputable def f46_1 (M : Mach) (g : C) (state : C) (order : C) (right : Bool) (x21 : C) (x22 : Int) (x23 : Int) (H : Heap) : Rs := mrun M 46 1 [.poison, .val (.c g), .poison, .val (.c state), .val (.c order), .val (.c (.bool right)), .poison, .poison, .poison, .poison, .poison, .poison, .poison, .poison, .poison, .poison, .poison, .poison, .poison, .poison, .poison, .val (.c x21), .val (.c (.int .i64 x22)), .val (.c (.int .i64 x23)), .poison, .poison, .poison, .poison, .poison, .poison, .poison, .poison, .poison, .poison, .poison, .poison, .poison, .poison, .poison, .poison, .poison, .poison, .poison, .poison, .poison, .poison, .poison, .poison, .poison, .poison, .poison, .poison, .poison, .poison, .poison, .poison, .poison, .poison, .poison, .poison, .poison, .poison, .poison, .poison, .poison, .poison, .poison, .poison, .poison, .poison, .poison, .poison, .poison, .poison, .poison, .poison, .poison, .poison, .poison, .poison, .poison, .poison, .poison, .poison, .poison, .poison, .poison, .poison, .poison, .poison, .poison, .poison, .poison, .poison] H
noncomputable def f46_2 (M : Mach) (g : C) (state : C) (order : C) (right : Bool) (x50 : C) (x51 : Int) (x52 : Int) (H : Heap) : Rs := mrun M 46 2 [.poison, .val (.c g), .poison, .val (.c state), .val (.c order), .val (.c (.bool right)), .poison, .poison, .poison, .poison, .poison, .poison, .poison, .poison, .poison, .poison, .poison, .poison, .poison, .poison, .poison, .poison, .poison, .poison, .poison, .poison, .poison, .poison, .poison, .poison, .poison, .poison, .poison, .poison, .poison, .poison, .poison, .poison, .poison, .poison, .poison, .poison, .poison, .poison, .poison, .poison, .poison, .poison, .poison, .poison, .val (.c x50), .val (.c (.int .i64 x51)), .val (.c (.int .i64 x52)), .poison, .poison, .poison, .poison, .poison, .poison, .poison, .poison, .poison, .poison, .poison, .poison, .poison, .poison, .poison, .poison, .poison, .poison, .poison, .poison, .poison, .poison, .poison, .poison, .poison, .poison, .poison, .poison, .poison, .poison, .poison, .poison, .poison, .poison, .poison, .poison, .poison, .poison, .poison, .poison, .poison] H
-- stutter/simulate.farFrom
noncomputable def f47 (M : Mach) (g_0 : Int) (g_1 : C) (g_2 : C) (vfrom : C) (H : Heap) : Rs := mrun M 47 0 [.val (.agg [(.int .i64 g_0), g_1, g_2]), .val (.c vfrom)] H
noncomputable def f47_1 (M : Mach) (g_0 : Int) (g_1 : C) (g_2 : C) (x4_0 : Int) (x4_1 : C) (x4_2 : C) (x4_3 : C) (x4_4 : C) (out : C) (x_0 : Int) (x_1 : C) (x_2 : C) (x_3 : C) (x_4 : C) (vopen : C) (x28 : C) (x29 : Int) (x30 : Int) (H : Heap) : Rs := mrun M 47 1 [.poison, .poison, .loc [(.int .i64 g_0), g_1, g_2], .poison, .loc [(.int .i64 x4_0), x4_1, x4_2, x4_3, x4_4], .val (.c out), .loc [(.int .i64 x_0), x_1, x_2, x_3, x_4], .val (.c vopen), .poison, .poison, .poison, .poison, .poison, .poison, .poison, .poison, .poison, .poison, .poison, .poison, .poison, .poison, .poison, .poison, .poison, .poison, .poison, .poison, .val (.c x28), .val (.c (.int .i64 x29)), .val (.c (.int .i64 x30)), .poison, .poison, .poison, .poison, .poison, .poison, .poison, .poison, .poison, .poison, .poison, .poison, .poison, .poison, .poison, .poison, .poison, .poison, .poison, .poison, .poison, .poison, .poison, .poison, .poison, .poison, .poison, .poison, .poison, .poison, .poison, .poison, .poison, .poison, .poison, .poison, .poison, .poison, .poison, .poison, .poison, .poison, .poison, .poison, .poison, .poison, .poison, .poison, .poison, .poison, .poison, .poison, .poison, .poison, .poison, .poison, .poison, .poison] H
noncomputable def f47_2 (M : Mach) (g_0 : Int) (g_1 : C) (g_2 : C) (x4_0 : Int) (x4_1 : C) (x4_2 : C) (x4_3 : C) (x4_4 : C) (out : C) (x_0 : Int) (x_1 : C) (x_2 : C) (x_3 : C) (x_4 : C) (vopen : C) (H : Heap) : Rs := mrun M 47 2 [.poison, .poison, .loc [(.int .i64 g_0), g_1, g_2], .poison, .loc [(.int .i64 x4_0), x4_1, x4_2, x4_3, x4_4], .val (.c out), .loc [(.int .i64 x_0), x_1, x_2, x_3, x_4], .val (.c vopen), .poison, .poison, .poison, .poison, .poison, .poison, .poison, .poison, .poison, .poison, .poison, .poison, .poison, .poison, .poison, .poison, .poison, .poison, .poison, .poison, .poison, .poison, .poison, .poison, .poison, .poison, .poison, .poison, .poison, .poison, .poison, .poison, .poison, .poison, .poison, .poison, .poison, .poison, .poison, .poison, .poison, .poison, .poison, .poison, .poison, .poison, .poison, .poison, .poison, .poison, .poison, .poison, .poison, .poison, .poison, .poison, .poison, .poison, .poison, .poison, .poison, .poison, .poison, .poison, .poison, .poison, .poison, .poison, .poison, .poison, .poison, .poison, .poison, .poison, .poison, .poison, .poison, .poison, .poison, .poison, .poison] H
noncomputable def f47_3 (M : Mach) (g_0 : Int) (g_1 : C) (g_2 : C) (x4_0 : Int) (x4_1 : C) (x4_2 : C) (x4_3 : C) (x4_4 : C) (out : C) (x_0 : Int) (x_1 : C) (x_2 : C) (x_3 : C) (x_4 : C) (vopen : C) (s : Int) (x50 : C) (x51 : Int) (x52 : Int) (H : Heap) : Rs := mrun M 47 3 [.poison, .poison, .loc [(.int .i64 g_0), g_1, g_2], .poison, .loc [(.int .i64 x4_0), x4_1, x4_2, x4_3, x4_4], .val (.c out), .loc [(.int .i64 x_0), x_1, x_2, x_3, x_4], .val (.c vopen), .poison, .poison, .val (.c (.int .i64 s)), .poison, .poison, .poison, .poison, .poison, .poison, .poison, .poison, .poison, .poison, .poison, .poison, .poison, .poison, .poison, .poison, .poison, .poison, .poison, .poison, .poison, .poison, .poison, .poison, .poison, .poison, .poison, .poison, .poison, .poison, .poison, .poison, .poison, .poison, .poison, .poison, .poison, .poison, .poison, .val (.c x50), .val (.c (.int .i64 x51)), .val (.c (.int .i64 x52)), .poison, .poison, .poison, .poison, .poison, .poison, .poison, .poison, .poison, .poison, .poison, .poison, .poison, .poison, .poison, .poison, .poison, .poison, .poison, .poison, .poison, .poison, .poison, .poison, .poison, .poison, .poison, .poison, .poison, .poison, .poison, .poison, .poison, .poison, .poison, .poison] H
noncomputable def f47_4 (M : Mach) (g_0 : Int) (g_1 : C) (g_2 : C) (x4_0 : Int) (x4_1 : C) (x4_2 : C) (x4_3 : C) (x4_4 : C) (out : C) (x_0 : Int) (x_1 : C) (x_2 : C) (x_3 : C) (x_4 : C) (vopen : C) (s : Int) (x50 : C) (x51 : Int) (x52 : Int) (H : Heap) : Rs := mrun M 47 4 [.poison, .poison, .loc [(.int .i64 g_0), g_1, g_2], .poison, .loc [(.int .i64 x4_0), x4_1, x4_2, x4_3, x4_4], .val (.c out), .loc [(.int .i64 x_0), x_1, x_2, x_3, x_4], .val (.c vopen), .poison, .poison, .val (.c (.int .i64 s)), .poison, .poison, .poison, .poison, .poison, .poison, .poison, .poison, .poison, .poison, .poison, .poison, .poison, .poison, .poison, .poison, .poison, .poison, .poison, .poison, .poison, .poison, .poison, .poison, .poison, .poison, .poison, .poison, .poison, .poison, .poison, .poison, .poison, .poison, .poison, .poison, .poison, .poison, .poison, .val (.c x50), .val (.c (.int .i64 x51)), .val (.c (.int .i64 x52)), .poison, .poison, .poison, .poison, .poison, .poison, .poison, .poison, .poison, .poison, .poison, .poison, .poison, .poison, .poison, .poison, .poison, .poison, .poison, .poison, .poison, .poison, .poison, .poison, .poison, .poison, .poison, .poison, .poison, .poison, .poison, .poison, .poison, .poison, .poison, .poison] H
-- (stutter/simulate.far).path
noncomputable def f48 (M : Mach) (x_0 : Int) (x_1 : C) (x_2 : C) (x_3 : C) (x_4 : C) (to : Int) (H : Heap) : Rs := mrun M 48 0 [.val (.agg [(.int .i64 x_0), x_1, x_2, x_3, x_4]), .val (.c (.int .i64 to))] H
noncomputable def f48_1 (M : Mach) (to : Int) (x_0 : Int) (x_1 : C) (x_2 : C) (x_3 : C) (x_4 : C) (out : C) (H : Heap) : Rs := mrun M 48 1 [.poison, .val (.c (.int .i64 to)), .loc [(.int .i64 x_0), x_1, x_2, x_3, x_4], .poison, .poison, .poison, .val (.c out), .poison, .poison, .poison, .poison, .poison, .poison, .poison, .poison, .poison, .poison, .poison, .poison, .poison, .poison, .poison, .poison, .poison, .poison, .poison, .poison, .poison, .poison, .poison, .poison, .poison, .poison, .poison, .poison, .poison] H
-- stutter/stutterbase.FirstInts
noncomputable def f49 (M : Mach) (a : C) (b : C) (H : Heap) : Rs := mrun M 49 0 [.val (.c a), .val (.c b)] H
noncomputable def f49_1 (M : Mach) (a : C) (b : C) (i : Int) (H : Heap) : Rs := mrun M 49 1 [.val (.c a), .val (.c b), .poison, .poison, .poison, .val (.c (.int .i64 i)), .poison, .poison, .poison, .poison, .poison, .poison, .poison, .poison, .poison, .poison, .poison, .poison, .poison, .poison, .poison, .poison, .poison, .poison, .poison, .poison, .poison, .poison, .poison, .poison, .poison, .poison, .poison, .poison, .poison, .poison, .poison, .poison, .poison, .poison, .poison, .poison, .poison, .poison, .poison, .poison, .poison, .poison, .poison, .poison, .poison, .poison] H
-- stutter/stutterbase.edgeInts
noncomputable def f50 (M : Mach) (x_0 : Int) (x_1 : Int) (x_2 : Int) (H : Heap) : Rs := mrun M 50 0 [.val (.agg [(.int .i64 x_0), (.int .i64 x_1), (.int .i64 x_2)])] H
-- stutter/stutterbase.Holds
noncomputable def f51 (M : Mach) (l : C) (n : Int) (H : Heap) : Rs := mrun M 51 0 [.val (.c l), .val (.c (.int .i64 n))] H
noncomputable def f51_1 (M : Mach) (l : C) (n : Int) (i : Int) (H : Heap) : Rs := mrun M 51 1 [.val (.c l), .val (.c (.int .i64 n)), .poison, .poison, .poison, .val (.c (.int .i64 i)), .poison, .poison, .poison, .poison, .poison, .poison, .poison, .poison, .poison, .poison, .poison, .poison] H
-- stutter/simulate.weightsErr
noncomputable def f52 (M : Mach) (w : C) (H : Heap) : Rs := mrun M 52 0 [.val (.c w)] H
-- stutter/simulate.outOf
noncomputable def f53 (M : Mach) (g_0 : Int) (g_1 : C) (g_2 : C) (H : Heap) : Rs := mrun M 53 0 [.val (.agg [(.int .i64 g_0), g_1, g_2])] H
noncomputable def f53_1 (M : Mach) (out : C) (x10 : C) (x11 : Int) (x12 : Int) (H : Heap) : Rs := mrun M 53 1 [.poison, .poison, .poison, .val (.c out), .poison, .poison, .poison, .poison, .poison, .poison, .val (.c x10), .val (.c (.int .i64 x11)), .val (.c (.int .i64 x12)), .poison, .poison, .poison, .poison, .poison, .poison, .poison, .poison, .poison, .poison, .poison, .poison, .poison, .poison, .poison, .poison, .poison, .poison] H
-- stutter/stutterref20.possible
noncomputable def f54 (M : Mach) (g_0 : Int) (g_1 : C) (g_2 : C) (w : C) (s : Int) (H : Heap) : Rs := mrun M 54 0 [.val (.agg [(.int .i64 g_0), g_1, g_2]), .val (.c w), .val (.c (.int .i64 s))] H
noncomputable def f54_1 (M : Mach) (w : C) (s : Int) (g_0 : Int) (g_1 : C) (g_2 : C) (out : C) (sum : Int) (i : Int) (H : Heap) : Rs := mrun M 54 1 [.poison, .val (.c w), .val (.c (.int .i64 s)), .loc [(.int .i64 g_0), g_1, g_2], .poison, .poison, .poison, .poison, .val (.c out), .val (.c (.int .i64 sum)), .val (.c (.int .i64 i)), .poison, .poison, .poison, .poison, .poison, .poison, .poison, .poison, .poison, .poison, .poison, .poison, .poison, .poison, .poison, .poison, .poison, .poison, .poison, .poison, .poison, .poison, .poison, .poison, .poison, .poison, .poison, .poison, .poison, .poison, .poison, .poison, .poison, .poison, .poison, .poison, .poison, .poison, .poison, .poison, .poison, .poison, .poison, .poison] H
noncomputable def f54_2 (M : Mach) (w : C) (s : Int) (g_0 : Int) (g_1 : C) (g_2 : C) (out : C) (sum : Int) (i : Int) (H : Heap) : Rs := mrun M 54 2 [.poison, .val (.c w), .val (.c (.int .i64 s)), .loc [(.int .i64 g_0), g_1, g_2], .poison, .poison, .poison, .poison, .val (.c out), .val (.c (.int .i64 sum)), .val (.c (.int .i64 i)), .poison, .poison, .poison, .poison, .poison, .poison, .poison, .poison, .poison, .poison, .poison, .poison, .poison, .poison, .poison, .poison, .poison, .poison, .poison, .poison, .poison, .poison, .poison, .poison, .poison, .poison, .poison, .poison, .poison, .poison, .poison, .poison, .poison, .poison, .poison, .poison, .poison, .poison, .poison, .poison, .poison, .poison, .poison, .poison] H
-- stutter/simulate.walkErr
noncomputable def f55 (M : Mach) (g_0 : Int) (g_1 : C) (g_2 : C) (x_0 : Int) (x_1 : C) (x_2 : Bool) (H : Heap) : Rs := mrun M 55 0 [.val (.agg [(.int .i64 g_0), g_1, g_2]), .val (.agg [(.int .i64 x_0), x_1, (.bool x_2)])] H
noncomputable def f55_1 (M : Mach) (g_0 : Int) (g_1 : C) (g_2 : C) (vat : Int) (x22 : C) (x23 : Int) (x24 : Int) (H : Heap) : Rs := mrun M 55 1 [.poison, .poison, .loc [(.int .i64 g_0), g_1, g_2], .poison, .poison, .poison, .val (.c (.int .i64 vat)), .poison, .poison, .poison, .poison, .poison, .poison, .poison, .poison, .poison, .poison, .poison, .poison, .poison, .poison, .poison, .val (.c x22), .val (.c (.int .i64 x23)), .val (.c (.int .i64 x24)), .poison, .poison, .poison, .poison, .poison, .poison, .poison, .poison, .poison, .poison, .poison, .poison, .poison, .poison, .poison, .poison, .poison, .poison, .poison, .poison, .poison, .poison, .poison, .poison, .poison, .poison, .poison, .poison] H
-- stutter/simulate.reachedSteps
noncomputable def f56 (M : Mach) (g_0 : Int) (g_1 : C) (g_2 : C) (H : Heap) : Rs := mrun M 56 0 [.val (.agg [(.int .i64 g_0), g_1, g_2])] H
noncomputable def f56_1 (M : Mach) (dist : C) (out : C) (x13 : C) (x14 : Int) (x15 : Int) (H : Heap) : Rs := mrun M 56 1 [.poison, .poison, .poison, .val (.c dist), .val (.c out), .poison, .poison, .poison, .poison, .poison, .poison, .poison, .poison, .val (.c x13), .val (.c (.int .i64 x14)), .val (.c (.int .i64 x15)), .poison, .poison, .poison, .poison, .poison, .poison, .poison, .poison, .poison, .poison, .poison, .poison, .poison, .poison, .poison, .poison] H
noncomputable def f56_2 (M : Mach) (dist : C) (out : C) (x13 : C) (x14 : Int) (x15 : Int) (H : Heap) : Rs := mrun M 56 2 [.poison, .poison, .poison, .val (.c dist), .val (.c out), .poison, .poison, .poison, .poison, .poison, .poison, .poison, .poison, .val (.c x13), .val (.c (.int .i64 x14)), .val (.c (.int .i64 x15)), .poison, .poison, .poison, .poison, .poison, .poison, .poison, .poison, .poison, .poison, .poison, .poison, .poison, .poison, .poison, .poison] H
-- (*stutter/simulate.tour).extend
noncomputable def f57 (M : Mach) (t : C) (w : C) (vat : Int) (H : Heap) : Rs := mrun M 57 0 [.val (.c t), .val (.c w), .val (.c (.int .i64 vat))] H
noncomputable def f57_1 (M : Mach) (t : C) (w : C) (vat : Int) (H : Heap) : Rs := mrun M 57 1 [.val (.c t), .val (.c w), .val (.c (.int .i64 vat)), .poison, .poison, .poison, .poison, .poison, .poison, .poison, .poison, .poison, .poison, .poison, .poison, .poison, .poison, .poison, .poison, .poison, .poison, .poison, .poison, .poison, .poison, .poison, .poison, .poison, .poison, .poison, .poison, .poison, .poison, .poison, .poison, .poison, .poison, .poison, .poison, .poison, .poison, .poison, .poison, .poison, .poison, .poison, .poison, .poison, .poison, .poison, .poison, .poison, .poison, .poison, .poison, .poison, .poison, .poison, .poison, .poison, .poison, .poison, .poison, .poison, .poison, .poison, .poison, .poison, .poison, .poison, .poison, .poison, .poison, .poison, .poison, .poison, .poison, .poison, .poison, .poison, .poison, .poison, .poison, .poison, .poison, .poison, .poison, .poison, .poison, .poison, .poison, .poison, .poison, .poison, .poison, .poison, .poison, .poison, .poison, .poison, .poison, .poison, .poison, .poison, .poison, .poison, .poison, .poison, .poison, .poison, .poison, .poison, .poison, .poison, .poison, .poison, .poison, .poison, .poison, .poison, .poison, .poison, .poison, .poison, .poison, .poison, .poison, .poison, .poison, .poison, .poison, .poison, .poison, .poison, .poison, .poison, .poison, .poison, .poison, .poison, .poison, .poison, .poison, .poison, .poison, .poison, .poison, .poison, .poison, .poison, .poison, .poison] H
noncomputable def f57_2 (M : Mach) (t : C) (w : C) (x_0 : Int) (x_1 : C) (x_2 : C) (x_3 : C) (x_4 : C) (best : Int) (x25 : C) (x26 : Int) (x27 : Int) (H : Heap) : Rs := mrun M 57 2 [.val (.c t), .val (.c w), .poison, .poison, .poison, .poison, .loc [(.int .i64 x_0), x_1, x_2, x_3, x_4], .val (.c (.int .i64 best)), .poison, .poison, .poison, .poison, .poison, .poison, .poison, .poison, .poison, .poison, .poison, .poison, .poison, .poison, .poison, .poison, .poison, .val (.c x25), .val (.c (.int .i64 x26)), .val (.c (.int .i64 x27)), .poison, .poison, .poison, .poison, .poison, .poison, .poison, .poison, .poison, .poison, .poison, .poison, .poison, .poison, .poison, .poison, .poison, .poison, .poison, .poison, .poison, .poison, .poison, .poison, .poison, .poison, .poison, .poison, .poison, .poison, .poison, .poison, .poison, .poison, .poison, .poison, .poison, .poison, .poison, .poison, .poison, .poison, .poison, .poison, .poison, .poison, .poison, .poison, .poison, .poison, .poison, .poison, .poison, .poison, .poison, .poison, .poison, .poison, .poison, .poison, .poison, .poison, .poison, .poison, .poison, .poison, .poison, .poison, .poison, .poison, .poison, .poison, .poison, .poison, .poison, .poison, .poison, .poison, .poison, .poison, .poison, .poison, .poison, .poison, .poison, .poison, .poison, .poison, .poison, .poison, .poison, .poison, .poison, .poison, .poison, .poison, .poison, .poison, .poison, .poison, .poison, .poison, .poison, .poison, .poison, .poison, .poison, .poison, .poison, .poison, .poison, .poison, .poison, .poison, .poison, .poison, .poison, .poison, .poison, .poison, .poison, .poison, .poison, .poison] H
noncomputable def f57_3 (M : Mach) (t : C) (w : C) (x_0 : Int) (x_1 : C) (x_2 : C) (x_3 : C) (x_4 : C) (best : Int) (x25 : C) (x26 : Int) (x27 : Int) (H : Heap) : Rs := mrun M 57 3 [.val (.c t), .val (.c w), .poison, .poison, .poison, .poison, .loc [(.int .i64 x_0), x_1, x_2, x_3, x_4], .val (.c (.int .i64 best)), .poison, .poison, .poison, .poison, .poison, .poison, .poison, .poison, .poison, .poison, .poison, .poison, .poison, .poison, .poison, .poison, .poison, .val (.c x25), .val (.c (.int .i64 x26)), .val (.c (.int .i64 x27)), .poison, .poison, .poison, .poison, .poison, .poison, .poison, .poison, .poison, .poison, .poison, .poison, .poison, .poison, .poison, .poison, .poison, .poison, .poison, .poison, .poison, .poison, .poison, .poison, .poison, .poison, .poison, .poison, .poison, .poison, .poison, .poison, .poison, .poison, .poison, .poison, .poison, .poison, .poison, .poison, .poison, .poison, .poison, .poison, .poison, .poison, .poison, .poison, .poison, .poison, .poison, .poison, .poison, .poison, .poison, .poison, .poison, .poison, .poison, .poison, .poison, .poison, .poison, .poison, .poison, .poison, .poison, .poison, .poison, .poison, .poison, .poison, .poison, .poison, .poison, .poison, .poison, .poison, .poison, .poison, .poison, .poison, .poison, .poison, .poison, .poison, .poison, .poison, .poison, .poison, .poison, .poison, .poison, .poison, .poison, .poison, .poison, .poison, .poison, .poison, .poison, .poison, .poison, .poison, .poison, .poison, .poison, .poison, .poison, .poison, .poison, .poison, .poison, .poison, .poison, .poison, .poison, .poison, .poison, .poison, .poison, .poison, .poison, .poison] H
noncomputable def f57_4 (M : Mach) (t : C) (w : C) (best : Int) (x121 : C) (x122 : Int) (x123 : Int) (H : Heap) : Rs := mrun M 57 4 [.val (.c t), .val (.c w), .poison, .poison, .poison, .poison, .poison, .val (.c (.int .i64 best)), .poison, .poison, .poison, .poison, .poison, .poison, .poison, .poison, .poison, .poison, .poison, .poison, .poison, .poison, .poison, .poison, .poison, .poison, .poison, .poison, .poison, .poison, .poison, .poison, .poison, .poison, .poison, .poison, .poison, .poison, .poison, .poison, .poison, .poison, .poison, .poison, .poison, .poison, .poison, .poison, .poison, .poison, .poison, .poison, .poison, .poison, .poison, .poison, .poison, .poison, .poison, .poison, .poison, .poison, .poison, .poison, .poison, .poison, .poison, .poison, .poison, .poison, .poison, .poison, .poison, .poison, .poison, .poison, .poison, .poison, .poison, .poison, .poison, .poison, .poison, .poison, .poison, .poison, .poison, .poison, .poison, .poison, .poison, .poison, .poison, .poison, .poison, .poison, .poison, .poison, .poison, .poison, .poison, .poison, .poison, .poison, .poison, .poison, .poison, .poison, .poison, .poison, .poison, .poison, .poison, .poison, .poison, .poison, .poison, .poison, .poison, .poison, .poison, .val (.c x121), .val (.c (.int .i64 x122)), .val (.c (.int .i64 x123)), .poison, .poison, .poison, .poison, .poison, .poison, .poison, .poison, .poison, .poison, .poison, .poison, .poison, .poison, .poison, .poison, .poison, .poison, .poison, .poison, .poison, .poison, .poison, .poison, .poison, .poison, .poison, .poison] H
-- stutter/simulate.walksErr
noncomputable def f58 (M : Mach) (g_0 : Int) (g_1 : C) (g_2 : C) (l : C) (H : Heap) : Rs := mrun M 58 0 [.val (.agg [(.int .i64 g_0), g_1, g_2]), .val (.c l)] H
noncomputable def f58_1 (M : Mach) (g_0 : Int) (g_1 : C) (g_2 : C) (x21 : C) (x22 : Int) (x23 : Int) (H : Heap) : Rs := mrun M 58 1 [.poison, .poison, .loc [(.int .i64 g_0), g_1, g_2], .poison, .poison, .poison, .poison, .poison, .poison, .poison, .poison, .poison, .poison, .poison, .poison, .poison, .poison, .poison, .poison, .poison, .poison, .val (.c x21), .val (.c (.int .i64 x22)), .val (.c (.int .i64 x23)), .poison, .poison, .poison, .poison, .poison, .poison, .poison, .poison, .poison, .poison, .poison, .poison, .poison] H
-- stutter/simulate.coverage
noncomputable def f59 (M : Mach) (g_0 : Int) (g_1 : C) (g_2 : C) (l : C) (H : Heap) : Rs := mrun M 59 0 [.val (.agg [(.int .i64 g_0), g_1, g_2]), .val (.c l)] H
noncomputable def f59_1 (M : Mach) (g_0 : Int) (g_1 : C) (g_2 : C) (x4_0 : C) (x4_1 : C) (out_0 : C) (out_1 : C) (x18 : C) (x19 : Int) (x20 : Int) (H : Heap) : Rs := mrun M 59 1 [.poison, .poison, .loc [(.int .i64 g_0), g_1, g_2], .poison, .loc [x4_0, x4_1], .loc [out_0, out_1], .poison, .poison, .poison, .poison, .poison, .poison, .poison, .poison, .poison, .poison, .poison, .poison, .val (.c x18), .val (.c (.int .i64 x19)), .val (.c (.int .i64 x20)), .poison, .poison, .poison, .poison, .poison, .poison, .poison, .poison, .poison, .poison, .poison, .poison, .poison, .poison, .poison, .poison, .poison, .poison, .poison, .poison, .poison, .poison, .poison, .poison, .poison, .poison, .poison, .poison, .poison, .poison, .poison, .poison, .poison, .poison, .poison, .poison, .poison, .poison, .poison, .poison] H
noncomputable def f59_2 (M : Mach) (g_0 : Int) (g_1 : C) (g_2 : C) (x4_0 : C) (x4_1 : C) (out_0 : C) (out_1 : C) (x18 : C) (x19 : Int) (x20 : Int) (x33 : C) (x34 : Int) (x35 : Int) (H : Heap) : Rs := mrun M 59 2 [.poison, .poison, .loc [(.int .i64 g_0), g_1, g_2], .poison, .loc [x4_0, x4_1], .loc [out_0, out_1], .poison, .poison, .poison, .poison, .poison, .poison, .poison, .poison, .poison, .poison, .poison, .poison, .val (.c x18), .val (.c (.int .i64 x19)), .val (.c (.int .i64 x20)), .poison, .poison, .poison, .poison, .poison, .poison, .poison, .poison, .poison, .poison, .poison, .poison, .val (.c x33), .val (.c (.int .i64 x34)), .val (.c (.int .i64 x35)), .poison, .poison, .poison, .poison, .poison, .poison, .poison, .poison, .poison, .poison, .poison, .poison, .poison, .poison, .poison, .poison, .poison, .poison, .poison, .poison, .poison, .poison, .poison, .poison, .poison] H
-- slices.DeleteFunc[[]int,int]
noncomputable def f60 (M : Mach) (s : C) (del : C) (H : Heap) : Rs := mrun M 60 0 [.val (.c s), .val (.c del)] H
noncomputable def f60_1 (M : Mach) (s : C) (del : C) (i : Int) (j : Int) (H : Heap) : Rs := mrun M 60 1 [.val (.c s), .val (.c del), .poison, .poison, .poison, .val (.c (.int .i64 i)), .val (.c (.int .i64 j)), .poison, .poison, .poison, .poison, .poison, .poison, .poison, .poison, .poison, .poison, .poison, .poison, .poison, .poison, .poison, .poison, .poison, .poison, .poison, .poison, .poison, .poison, .poison, .poison, .poison, .poison, .poison, .poison, .poison, .poison, .poison, .poison, .poison, .poison, .poison] H
noncomputable def f60_2 (M : Mach) (s : C) (del : C) (i : Int) (j : Int) (H : Heap) : Rs := mrun M 60 2 [.val (.c s), .val (.c del), .poison, .poison, .poison, .val (.c (.int .i64 i)), .val (.c (.int .i64 j)), .poison, .poison, .poison, .poison, .poison, .poison, .poison, .poison, .poison, .poison, .poison, .poison, .poison, .poison, .poison, .poison, .poison, .poison, .poison, .poison, .poison, .poison, .poison, .poison, .poison, .poison, .poison, .poison, .poison, .poison, .poison, .poison, .poison, .poison, .poison] H
-- stutter/simulate.UncoveredIn$1
noncomputable def f61 (M : Mach) (i : Int) (x1 : C) (H : Heap) : Rs := mrun M 61 0 [.val (.c (.int .i64 i)), .val (.c x1)] H
-- stutter/simulate.graphErr$1
noncomputable def f62 (M : Mach) (n : Int) (x1 : C) (H : Heap) : Rs := mrun M 62 0 [.val (.c (.int .i64 n)), .val (.c x1)] H
-- stutter/simulate.graphErr$2
noncomputable def f63 (M : Mach) (a_0 : Int) (a_1 : Int) (a_2 : Int) (b_0 : Int) (b_1 : Int) (b_2 : Int) (H : Heap) : Rs := mrun M 63 0 [.val (.agg [(.int .i64 a_0), (.int .i64 a_1), (.int .i64 a_2)]), .val (.agg [(.int .i64 b_0), (.int .i64 b_1), (.int .i64 b_2)])] H
-- cmp.Or[int]
noncomputable def f64 (M : Mach) (vals : C) (H : Heap) : Rs := mrun M 64 0 [.val (.c vals)] H
noncomputable def f64_1 (M : Mach) (zero : Int) (x6 : C) (x7 : Int) (x8 : Int) (H : Heap) : Rs := mrun M 64 1 [.poison, .poison, .poison, .val (.c (.int .i64 zero)), .poison, .poison, .val (.c x6), .val (.c (.int .i64 x7)), .val (.c (.int .i64 x8)), .poison, .poison, .poison, .poison, .poison, .poison, .poison, .poison, .poison] H
-- cmp.Compare[int]
noncomputable def f65 (M : Mach) (x : Int) (y : Int) (H : Heap) : Rs := mrun M 65 0 [.val (.c (.int .i64 x)), .val (.c (.int .i64 y))] H
-- slices.Repeat[[]int,int]
noncomputable def f66 (M : Mach) (x : C) (count : Int) (H : Heap) : Rs := mrun M 66 0 [.val (.c x), .val (.c (.int .i64 count))] H
noncomputable def f66_1 (M : Mach) (x : C) (count : Int) (H : Heap) : Rs := mrun M 66 1 [.val (.c x), .val (.c (.int .i64 count)), .poison, .poison, .poison, .poison, .poison, .poison, .poison, .poison, .poison, .poison, .poison, .poison, .poison, .poison, .poison, .poison, .poison, .poison, .poison, .poison, .poison, .poison, .poison, .poison, .poison, .poison, .poison, .poison, .poison, .poison, .poison, .poison, .poison, .poison, .poison, .poison, .poison, .poison, .poison, .poison, .poison, .poison, .poison, .poison, .poison, .poison] H
noncomputable def f66_2 (M : Mach) (x : C) (lo : Int) (H : Heap) : Rs := mrun M 66 2 [.val (.c x), .poison, .poison, .poison, .poison, .poison, .val (.c (.int .u64 lo)), .poison, .poison, .poison, .poison, .poison, .poison, .poison, .poison, .poison, .poison, .poison, .poison, .poison, .poison, .poison, .poison, .poison, .poison, .poison, .poison, .poison, .poison, .poison, .poison, .poison, .poison, .poison, .poison, .poison, .poison, .poison, .poison, .poison, .poison, .poison, .poison, .poison, .poison, .poison, .poison, .poison] H
noncomputable def f66_3 (M : Mach) (newslice : C) (n : Int) (H : Heap) : Rs := mrun M 66 3 [.poison, .poison, .poison, .poison, .poison, .poison, .poison, .val (.c newslice), .val (.c (.int .i64 n)), .poison, .poison, .poison, .poison, .poison, .poison, .poison, .poison, .poison, .poison, .poison, .poison, .poison, .poison, .poison, .poison, .poison, .poison, .poison, .poison, .poison, .poison, .poison, .poison, .poison, .poison, .poison, .poison, .poison, .poison, .poison, .poison, .poison, .poison, .poison, .poison, .poison, .poison, .poison] H
-- slices.Clone[[]int,int]
noncomputable def f67 (M : Mach) (s : C) (H : Heap) : Rs := mrun M 67 0 [.val (.c s)] H
-- slices.Reverse[[]int,int]
noncomputable def f68 (M : Mach) (s : C) (H : Heap) : Rs := mrun M 68 0 [.val (.c s)] H
noncomputable def f68_1 (M : Mach) (s : C) (i : Int) (j : Int) (H : Heap) : Rs := mrun M 68 1 [.val (.c s), .poison, .val (.c (.int .i64 i)), .val (.c (.int .i64 j)), .poison, .poison, .poison, .poison, .poison, .poison, .poison, .poison, .poison, .poison, .poison, .poison, .poison, .poison, .poison, .poison, .poison, .poison, .poison, .poison, .poison, .poison, .poison, .poison] H
-- stutter/stutterbase.One
noncomputable def f69 (M : Mach) (is : Bool) (H : Heap) : Rs := mrun M 69 0 [.val (.c (.bool is))] H
-- slices.ContainsFunc[[]int,int]
noncomputable def f70 (M : Mach) (s : C) (f : C) (H : Heap) : Rs := mrun M 70 0 [.val (.c s), .val (.c f)] H
-- stutter/simulate.weightsErr$1
noncomputable def f71 (M : Mach) (n : Int) (H : Heap) : Rs := mrun M 71 0 [.val (.c (.int .i64 n))] H
-- slices.Contains[[]int,int]
noncomputable def f72 (M : Mach) (s : C) (v : Int) (H : Heap) : Rs := mrun M 72 0 [.val (.c s), .val (.c (.int .i64 v))] H
-- slices.IndexFunc[[]int,int]
noncomputable def f73 (M : Mach) (s : C) (f : C) (H : Heap) : Rs := mrun M 73 0 [.val (.c s), .val (.c f)] H
noncomputable def f73_1 (M : Mach) (s : C) (f : C) (x7 : Int) (x8 : Int) (H : Heap) : Rs := mrun M 73 1 [.val (.c s), .val (.c f), .poison, .poison, .poison, .poison, .poison, .val (.c (.int .i64 x7)), .val (.c (.int .i64 x8)), .poison, .poison, .poison, .poison, .poison, .poison, .poison, .poison, .poison, .poison] H
-- cmp.isNaN[int]
noncomputable def f74 (M : Mach) (x : Int) (H : Heap) : Rs := mrun M 74 0 [.val (.c (.int .i64 x))] H
-- math/bits.Mul
noncomputable def f75 (M : Mach) (x : Int) (y : Int) (H : Heap) : Rs := mrun M 75 0 [.val (.c (.int .u64 x)), .val (.c (.int .u64 y))] H
-- slices.Index[[]int,int]
noncomputable def f76 (M : Mach) (s : C) (v : Int) (H : Heap) : Rs := mrun M 76 0 [.val (.c s), .val (.c (.int .i64 v))] H
noncomputable def f76_1 (M : Mach) (s : C) (v : Int) (x7 : Int) (x8 : Int) (H : Heap) : Rs := mrun M 76 1 [.val (.c s), .val (.c (.int .i64 v)), .poison, .poison, .poison, .poison, .poison, .val (.c (.int .i64 x7)), .val (.c (.int .i64 x8)), .poison, .poison, .poison, .poison, .poison, .poison, .poison, .poison, .poison, .poison] H
-- math/bits.Mul32
noncomputable def f77 (M : Mach) (x : Int) (y : Int) (H : Heap) : Rs := mrun M 77 0 [.val (.c (.int .u32 x)), .val (.c (.int .u32 y))] H
-- math/bits.Mul64
noncomputable def f78 (M : Mach) (x : Int) (y : Int) (H : Heap) : Rs := mrun M 78 0 [.val (.c (.int .u64 x)), .val (.c (.int .u64 y))] H
-- stutter/stutterlaw20.SimulateNumbers
theorem f3_eq (M : Mach) (seed : Int) (count : Int) (H : Heap) : f3 M seed count H =
  (f10 M H).bind fun q1 =>
  (V.asC q1.1).bind fun c2 =>
  (C.asB c2).bind fun b3 =>
  (if (!b3) = true then
  some ((.c (.bool false)), q1.2)
  else
  (f11 M seed count q1.2).bind fun q4 =>
  (V.ext q4.1 0).bind fun v5 =>
  (V.asC v5).bind fun c6 =>
  (V.ext q4.1 1).bind fun v7 =>
  (V.asC v7).bind fun c8 =>
  (C.asI .i64 c8).bind fun n9 =>
  (f12 M seed q4.2).bind fun q10 =>
  (V.asC q10.1).bind fun c11 =>
  (C.asI .i64 c11).bind fun n12 =>
  (if (!decide (n12 = 0)) = true then
  (if (decide (n9 = n12)) = true then
  (C.len c6).bind fun k14 =>
  some (decide (((k14 : Nat) : Int) = 0), q10.2)
  else
  some (decide (n9 = n12), q10.2)).bind fun q13 =>
  some ((.c (.bool q13.1)), q13.2)
  else
  (f13 M count 0 300 q10.2).bind fun q15 =>
  (V.asC q15.1).bind fun c16 =>
  (C.asB c16).bind fun b17 =>
  (if (!b17) = true then
  (if (decide (n9 = 2)) = true then
  (C.len c6).bind fun k19 =>
  some (decide (((k19 : Nat) : Int) = 0), q15.2)
  else
  some (decide (n9 = 2), q15.2)).bind fun q18 =>
  some ((.c (.bool q18.1)), q18.2)
  else
  (if (decide (n9 = 0)) = true then
  (f15 M seed count q15.2).bind fun q21 =>
  (V.asC q21.1).bind fun c22 =>
  (f14 M c6 c22 q21.2).bind fun q23 =>
  (V.asC q23.1).bind fun c24 =>
  (C.asB c24).bind fun b25 =>
  some (b25, q23.2)
  else
  some (decide (n9 = 0), q15.2)).bind fun q20 =>
  some ((.c (.bool q20.1)), q20.2)))) := by
  unfold f3 mrun; rw [run_eq]; kernel_rfl
-- stutter/stutterlaw20.SimulateDistances
theorem f4_eq (M : Mach) (g_0 : Int) (g_1 : C) (g_2 : C) (to : Int) (H : Heap) : f4 M g_0 g_1 g_2 to H =
  (f10 M H).bind fun q1 =>
  (V.asC q1.1).bind fun c2 =>
  (C.asB c2).bind fun b3 =>
  (if (!b3) = true then
  some ((.c (.bool false)), q1.2)
  else
  (f16 M g_0 g_1 g_2 q1.2).bind fun q4 =>
  (V.asC q4.1).bind fun c5 =>
  (C.asB c5).bind fun b6 =>
  (if (!b6) = true then
  some ((.c (.bool true)), q4.2)
  else
  (f18 M g_0 g_1 g_2 q4.2).bind fun q7 =>
  (V.asA q7.1).bind fun c8 =>
  (headC c8).bind fun c9 =>
  (C.asI .i64 c9).bind fun n10 =>
  (headC (c8.drop 1)).bind fun c11 =>
  (headC ((c8.drop 1).drop 1)).bind fun c12 =>
  (if ((((c8.drop 1).drop 1).drop 1)).length = 0 then
  (f17 M n10 c11 c12 q7.2).bind fun q13 =>
  (V.ext q13.1 0).bind fun v14 =>
  (V.asC v14).bind fun c15 =>
  (V.ext q13.1 1).bind fun v16 =>
  (V.asC v16).bind fun c17 =>
  (C.asI .i64 c17).bind fun n18 =>
  (f18 M g_0 g_1 g_2 q13.2).bind fun q19 =>
  (V.asA q19.1).bind fun c20 =>
  (headC c20).bind fun c21 =>
  (C.asI .i64 c21).bind fun n22 =>
  (headC (c20.drop 1)).bind fun c23 =>
  (headC ((c20.drop 1).drop 1)).bind fun c24 =>
  (if ((((c20.drop 1).drop 1).drop 1)).length = 0 then
  (f19 M n22 c23 c24 to q19.2).bind fun q25 =>
  (V.ext q25.1 0).bind fun v26 =>
  (V.asA v26).bind fun c27 =>
  (headC c27).bind fun c28 =>
  (C.asI .i64 c28).bind fun n29 =>
  (headC (c27.drop 1)).bind fun c30 =>
  (headC ((c27.drop 1).drop 1)).bind fun c31 =>
  (C.asB c31).bind fun b32 =>
  (if ((((c27.drop 1).drop 1).drop 1)).length = 0 then
  (V.ext q25.1 1).bind fun v33 =>
  (V.asC v33).bind fun c34 =>
  (C.asI .i64 c34).bind fun n35 =>
  (f20 M g_0 g_1 g_2 q25.2).bind fun q36 =>
  (V.asC q36.1).bind fun c37 =>
  (C.asB c37).bind fun b38 =>
  (if (!b38) = true then
  (if (decide (n18 = 5)) = true then
  some (decide (n35 = 5), q36.2)
  else
  some (decide (n18 = 5), q36.2)).bind fun q39 =>
  (if q39.1 = true then
  (C.len c15).bind fun k41 =>
  some (decide (((k41 : Nat) : Int) = 0), q39.2)
  else
  some (q39.1, q39.2)).bind fun q40 =>
  (if q40.1 = true then
  (f21 M n29 c30 b32 0 .nilSlice false q40.2).bind fun q43 =>
  (V.asC q43.1).bind fun c44 =>
  (C.asB c44).bind fun b45 =>
  some (b45, q43.2)
  else
  some (q40.1, q40.2)).bind fun q42 =>
  some ((.c (.bool q42.1)), q42.2)
  else
  (f22 M g_0 g_1 g_2 q36.2).bind fun q46 =>
  (V.asC q46.1).bind fun c47 =>
  (if (!decide (n18 = 0)) = false then
  (f14 M c15 c47 q46.2).bind fun q49 =>
  (V.asC q49.1).bind fun c50 =>
  (C.asB c50).bind fun b51 =>
  some (!b51, q49.2)
  else
  some (!decide (n18 = 0), q46.2)).bind fun q48 =>
  (if q48.1 = true then
  some ((.c (.bool false)), q48.2)
  else
  (f13 M to 0 (IntKind.wrap .i64 (g_0 - 1)) q48.2).bind fun q52 =>
  (V.asC q52.1).bind fun c53 =>
  (C.asB c53).bind fun b54 =>
  (if (!b54) = true then
  (if (decide (n35 = 3)) = true then
  (f21 M n29 c30 b32 0 .nilSlice false q52.2).bind fun q56 =>
  (V.asC q56.1).bind fun c57 =>
  (C.asB c57).bind fun b58 =>
  some (b58, q56.2)
  else
  some (decide (n35 = 3), q52.2)).bind fun q55 =>
  some ((.c (.bool q55.1)), q55.2)
  else
  (C.elem 1 c47 to).bind fun q59 =>
  (Heap.ld q52.2 q59.1 q59.2).bind fun c60 =>
  (C.asI .i64 c60).bind fun n61 =>
  (if (decide (n61 = (-1))) = true then
  (if (decide (n35 = 25)) = true then
  (f21 M n29 c30 b32 0 .nilSlice false q52.2).bind fun q63 =>
  (V.asC q63.1).bind fun c64 =>
  (C.asB c64).bind fun b65 =>
  some (b65, q63.2)
  else
  some (decide (n35 = 25), q52.2)).bind fun q62 =>
  some ((.c (.bool q62.1)), q62.2)
  else
  (if (decide (n35 = 0)) = true then
  (f23 M g_0 g_1 g_2 to q52.2).bind fun q67 =>
  (V.asA q67.1).bind fun c68 =>
  (headC c68).bind fun c69 =>
  (C.asI .i64 c69).bind fun n70 =>
  (headC (c68.drop 1)).bind fun c71 =>
  (headC ((c68.drop 1).drop 1)).bind fun c72 =>
  (C.asB c72).bind fun b73 =>
  (if ((((c68.drop 1).drop 1).drop 1)).length = 0 then
  (f21 M n29 c30 b32 n70 c71 b73 q67.2).bind fun q74 =>
  (V.asC q74.1).bind fun c75 =>
  (C.asB c75).bind fun b76 =>
  some (b76, q74.2)
  else
  none)
  else
  some (decide (n35 = 0), q52.2)).bind fun q66 =>
  (if q66.1 = true then
  (C.len c30).bind fun k78 =>
  (C.elem 1 c47 to).bind fun q79 =>
  (Heap.ld q66.2 q79.1 q79.2).bind fun c80 =>
  (C.asI .i64 c80).bind fun n81 =>
  some (decide (((k78 : Nat) : Int) = n81), q66.2)
  else
  some (q66.1, q66.2)).bind fun q77 =>
  some ((.c (.bool q77.1)), q77.2)))))
  else
  none)
  else
  none)
  else
  none))) := by
  unfold f4 mrun; rw [run_eq]; kernel_rfl
-- stutter/stutterlaw20.SimulateBegins
theorem f5_eq (M : Mach) (g_0 : Int) (g_1 : C) (g_2 : C) (w : C) (x_0 : Int) (x_1 : Int) (H : Heap) : f5 M g_0 g_1 g_2 w x_0 x_1 H =
  (f10 M H).bind fun q1 =>
  (V.asC q1.1).bind fun c2 =>
  (C.asB c2).bind fun b3 =>
  (if (!b3) = true then
  some ((.c (.bool false)), q1.2)
  else
  (f16 M g_0 g_1 g_2 q1.2).bind fun q4 =>
  (V.asC q4.1).bind fun c5 =>
  (C.asB c5).bind fun b6 =>
  (if (!b6) = false then
  (f20 M g_0 g_1 g_2 q4.2).bind fun q8 =>
  (V.asC q8.1).bind fun c9 =>
  (C.asB c9).bind fun b10 =>
  some (!b10, q8.2)
  else
  some (!b6, q4.2)).bind fun q7 =>
  (if q7.1 = false then
  (C.len g_1).bind fun k12 =>
  some (decide (((k12 : Nat) : Int) = 0), q7.2)
  else
  some (q7.1, q7.2)).bind fun q11 =>
  (if q11.1 = false then
  (f24 M w q11.2).bind fun q14 =>
  (V.asC q14.1).bind fun c15 =>
  (C.asI .i64 c15).bind fun n16 =>
  some (!decide (n16 = 0), q14.2)
  else
  some (q11.1, q11.2)).bind fun q13 =>
  (if q13.1 = false then
  (f12 M x_0 q13.2).bind fun q18 =>
  (V.asC q18.1).bind fun c19 =>
  (C.asI .i64 c19).bind fun n20 =>
  some (!decide (n20 = 0), q18.2)
  else
  some (q13.1, q13.2)).bind fun q17 =>
  (if q17.1 = false then
  (f13 M x_1 1 300 q17.2).bind fun q22 =>
  (V.asC q22.1).bind fun c23 =>
  (C.asB c23).bind fun b24 =>
  some (!b24, q22.2)
  else
  some (q17.1, q17.2)).bind fun q21 =>
  (if q21.1 = true then
  some ((.c (.bool true)), q21.2)
  else
  (f18 M g_0 g_1 g_2 q21.2).bind fun q25 =>
  (V.asA q25.1).bind fun c26 =>
  (headC c26).bind fun c27 =>
  (C.asI .i64 c27).bind fun n28 =>
  (headC (c26.drop 1)).bind fun c29 =>
  (headC ((c26.drop 1).drop 1)).bind fun c30 =>
  (if ((((c26.drop 1).drop 1).drop 1)).length = 0 then
  (f26 M w q25.2).bind fun q31 =>
  (V.asC q31.1).bind fun c32 =>
  (f25 M n28 c29 c30 c32 x_0 x_1 q31.2).bind fun q33 =>
  (V.ext q33.1 0).bind fun v34 =>
  (V.asA v34).bind fun c35 =>
  (headC c35).bind fun c36 =>
  (C.asI .i64 c36).bind fun n37 =>
  (headC (c35.drop 1)).bind fun c38 =>
  (headC ((c35.drop 1).drop 1)).bind fun c39 =>
  (C.asB c39).bind fun b40 =>
  (if ((((c35.drop 1).drop 1).drop 1)).length = 0 then
  (V.ext q33.1 1).bind fun v41 =>
  (V.asC v41).bind fun c42 =>
  (C.asI .i64 c42).bind fun n43 =>
  (f18 M g_0 g_1 g_2 q33.2).bind fun q44 =>
  (V.asA q44.1).bind fun c45 =>
  (headC c45).bind fun c46 =>
  (C.asI .i64 c46).bind fun n47 =>
  (headC (c45.drop 1)).bind fun c48 =>
  (headC ((c45.drop 1).drop 1)).bind fun c49 =>
  (if ((((c45.drop 1).drop 1).drop 1)).length = 0 then
  (f26 M w q44.2).bind fun q50 =>
  (V.asC q50.1).bind fun c51 =>
  (f25 M n47 c48 c49 c51 x_0 (IntKind.wrap .i64 (x_1 - 1)) q50.2).bind fun q52 =>
  (V.ext q52.1 0).bind fun v53 =>
  (V.asA v53).bind fun c54 =>
  (headC c54).bind fun c55 =>
  (C.asI .i64 c55).bind fun n56 =>
  (headC (c54.drop 1)).bind fun c57 =>
  (headC ((c54.drop 1).drop 1)).bind fun c58 =>
  (C.asB c58).bind fun b59 =>
  (if ((((c54.drop 1).drop 1).drop 1)).length = 0 then
  (V.ext q52.1 1).bind fun v60 =>
  (V.asC v60).bind fun c61 =>
  (C.asI .i64 c61).bind fun n62 =>
  (if (!decide (n43 = 0)) = false then
  some (!decide (n62 = 0), q52.2)
  else
  some (!decide (n43 = 0), q52.2)).bind fun q63 =>
  (if q63.1 = false then
  some (!decide (n37 = n56), q63.2)
  else
  some (q63.1, q63.2)).bind fun q64 =>
  (if q64.1 = false then
  (C.len c57).bind fun k66 =>
  (C.len c38).bind fun k67 =>
  some (decide (((k67 : Nat) : Int) < ((k66 : Nat) : Int)), q64.2)
  else
  some (q64.1, q64.2)).bind fun q65 =>
  (if q65.1 = false then
  (C.len c38).bind fun k69 =>
  some (decide (x_1 < ((k69 : Nat) : Int)), q65.2)
  else
  some (q65.1, q65.2)).bind fun q68 =>
  (if q68.1 = false then
  (C.len c57).bind fun k71 =>
  (Heap.sub M.lim q68.2 1 c38 0 (some ((k71 : Nat) : Int))).bind fun c72 =>
  (f14 M c57 c72 q68.2).bind fun q73 =>
  (V.asC q73.1).bind fun c74 =>
  (C.asB c74).bind fun b75 =>
  some (!b75, q73.2)
  else
  some (q68.1, q68.2)).bind fun q70 =>
  (if q70.1 = true then
  some ((.c (.bool false)), q70.2)
  else
  f5_1 M w g_0 g_1 g_2 n37 c38 b40 n56 c57 b59 0 q70.2)
  else
  none)
  else
  none)
  else
  none)
  else
  none))) := by
  unfold f5 mrun; rw [run_eq]; kernel_rfl
theorem f5_1_eq (M : Mach) (w : C) (g_0 : Int) (g_1 : C) (g_2 : C) (a_0 : Int) (a_1 : C) (a_2 : Bool) (b_0 : Int) (b_1 : C) (b_2 : Bool) (i : Int) (H : Heap) : f5_1 M w g_0 g_1 g_2 a_0 a_1 a_2 b_0 b_1 b_2 i H =
  (C.len a_1).bind fun k1 =>
  (if (decide (i < ((k1 : Nat) : Int))) = true then
  (C.elem 1 a_1 i).bind fun q2 =>
  (Heap.ld H q2.1 q2.2).bind fun c3 =>
  (C.asI .i64 c3).bind fun n4 =>
  (C.len g_2).bind fun k5 =>
  (f13 M n4 0 (IntKind.wrap .i64 (((k5 : Nat) : Int) - 1)) H).bind fun q6 =>
  (V.asC q6.1).bind fun c7 =>
  (C.asB c7).bind fun b8 =>
  (if (!b8) = false then
  (C.elem 1 a_1 i).bind fun q10 =>
  (Heap.ld q6.2 q10.1 q10.2).bind fun c11 =>
  (C.asI .i64 c11).bind fun n12 =>
  (C.elem 3 g_2 n12).bind fun q13 =>
  (Heap.ld q6.2 q13.1 (q13.2 + 2)).bind fun c14 =>
  (C.asI .i64 c14).bind fun n15 =>
  (C.elem 1 w n15).bind fun q16 =>
  (Heap.ld q6.2 q16.1 q16.2).bind fun c17 =>
  (C.asI .i64 c17).bind fun n18 =>
  some (decide (n18 = 0), q6.2)
  else
  some (!b8, q6.2)).bind fun q9 =>
  (if q9.1 = true then
  some ((.c (.bool false)), q9.2)
  else
  f5_1 M w g_0 g_1 g_2 a_0 a_1 a_2 b_0 b_1 b_2 (IntKind.wrap .i64 (i + 1)) q9.2)
  else
  (if (!b_2) = false then
  (C.len a_1).bind fun k20 =>
  (C.len b_1).bind fun k21 =>
  (if (decide (((k20 : Nat) : Int) = ((k21 : Nat) : Int))) = true then
  some (a_2, H)
  else
  some (decide (((k20 : Nat) : Int) = ((k21 : Nat) : Int)), H)).bind fun q22 =>
  some (q22.1, q22.2)
  else
  some (!b_2, H)).bind fun q19 =>
  some ((.c (.bool q19.1)), q19.2)) := by
  unfold f5_1 mrun; rw [run_eq]; kernel_rfl
-- stutter/stutterlaw20.SimulateWalks
theorem f6_eq (M : Mach) (g_0 : Int) (g_1 : C) (g_2 : C) (w : C) (x_0 : Int) (x_1 : Int) (H : Heap) : f6 M g_0 g_1 g_2 w x_0 x_1 H =
  (f10 M H).bind fun q1 =>
  (V.asC q1.1).bind fun c2 =>
  (C.asB c2).bind fun b3 =>
  (if (!b3) = true then
  some ((.c (.bool false)), q1.2)
  else
  (f16 M g_0 g_1 g_2 q1.2).bind fun q4 =>
  (V.asC q4.1).bind fun c5 =>
  (C.asB c5).bind fun b6 =>
  (if (!b6) = false then
  (C.len w).bind fun k8 =>
  some (decide (14 < ((k8 : Nat) : Int)), q4.2)
  else
  some (!b6, q4.2)).bind fun q7 =>
  (if q7.1 = true then
  some ((.c (.bool true)), q7.2)
  else
  (f18 M g_0 g_1 g_2 q7.2).bind fun q9 =>
  (V.asA q9.1).bind fun c10 =>
  (headC c10).bind fun c11 =>
  (C.asI .i64 c11).bind fun n12 =>
  (headC (c10.drop 1)).bind fun c13 =>
  (headC ((c10.drop 1).drop 1)).bind fun c14 =>
  (if ((((c10.drop 1).drop 1).drop 1)).length = 0 then
  (f26 M w q9.2).bind fun q15 =>
  (V.asC q15.1).bind fun c16 =>
  (f25 M n12 c13 c14 c16 x_0 x_1 q15.2).bind fun q17 =>
  (V.ext q17.1 0).bind fun v18 =>
  (V.asA v18).bind fun c19 =>
  (headC c19).bind fun c20 =>
  (C.asI .i64 c20).bind fun n21 =>
  (headC (c19.drop 1)).bind fun c22 =>
  (headC ((c19.drop 1).drop 1)).bind fun c23 =>
  (C.asB c23).bind fun b24 =>
  (if ((((c19.drop 1).drop 1).drop 1)).length = 0 then
  (V.ext q17.1 1).bind fun v25 =>
  (V.asC v25).bind fun c26 =>
  (C.asI .i64 c26).bind fun n27 =>
  (f20 M g_0 g_1 g_2 q17.2).bind fun q28 =>
  (V.asC q28.1).bind fun c29 =>
  (C.asB c29).bind fun b30 =>
  (if (!b30) = true then
  f6_1 M w g_0 g_1 g_2 x_0 x_1 n21 c22 b24 n27 5 q28.2
  else
  f6_1 M w g_0 g_1 g_2 x_0 x_1 n21 c22 b24 n27 0 q28.2)
  else
  none)
  else
  none))) := by
  unfold f6 mrun; rw [run_eq]; kernel_rfl
theorem f6_1_eq (M : Mach) (w : C) (g_0 : Int) (g_1 : C) (g_2 : C) (x_0 : Int) (x_1 : Int) (y_0 : Int) (y_1 : C) (y_2 : Bool) (e : Int) (c : Int) (H : Heap) : f6_1 M w g_0 g_1 g_2 x_0 x_1 y_0 y_1 y_2 e c H =
  (if (decide (c = 0)) = true then
  (f24 M w H).bind fun q1 =>
  (V.asC q1.1).bind fun c2 =>
  (C.asI .i64 c2).bind fun n3 =>
  f6_2 M w g_0 g_1 g_2 x_0 x_1 y_0 y_1 y_2 e n3 q1.2
  else
  f6_2 M w g_0 g_1 g_2 x_0 x_1 y_0 y_1 y_2 e c H) := by
  unfold f6_1 mrun; rw [run_eq]; kernel_rfl
theorem f6_2_eq (M : Mach) (w : C) (g_0 : Int) (g_1 : C) (g_2 : C) (x_0 : Int) (x_1 : Int) (y_0 : Int) (y_1 : C) (y_2 : Bool) (e : Int) (c : Int) (H : Heap) : f6_2 M w g_0 g_1 g_2 x_0 x_1 y_0 y_1 y_2 e c H =
  (if (decide (c = 0)) = true then
  (f12 M x_0 H).bind fun q1 =>
  (V.asC q1.1).bind fun c2 =>
  (C.asI .i64 c2).bind fun n3 =>
  f6_3 M w g_0 g_1 g_2 x_0 x_1 y_0 y_1 y_2 e n3 q1.2
  else
  f6_3 M w g_0 g_1 g_2 x_0 x_1 y_0 y_1 y_2 e c H) := by
  unfold f6_2 mrun; rw [run_eq]; kernel_rfl
theorem f6_3_eq (M : Mach) (w : C) (g_0 : Int) (g_1 : C) (g_2 : C) (x_0 : Int) (x_1 : Int) (y_0 : Int) (y_1 : C) (y_2 : Bool) (e : Int) (c : Int) (H : Heap) : f6_3 M w g_0 g_1 g_2 x_0 x_1 y_0 y_1 y_2 e c H =
  (if (decide (c = 0)) = true then
  (f13 M x_1 0 300 H).bind fun q2 =>
  (V.asC q2.1).bind fun c3 =>
  (C.asB c3).bind fun b4 =>
  some (!b4, q2.2)
  else
  some (decide (c = 0), H)).bind fun q1 =>
  (if q1.1 = true then
  f6_4 M w g_0 g_1 g_2 x_0 x_1 y_0 y_1 y_2 e 2 q1.2
  else
  f6_4 M w g_0 g_1 g_2 x_0 x_1 y_0 y_1 y_2 e c q1.2) := by
  unfold f6_3 mrun; rw [run_eq]; kernel_rfl
theorem f6_4_eq (M : Mach) (w : C) (g_0 : Int) (g_1 : C) (g_2 : C) (x_0 : Int) (x_1 : Int) (y_0 : Int) (y_1 : C) (y_2 : Bool) (e : Int) (c : Int) (H : Heap) : f6_4 M w g_0 g_1 g_2 x_0 x_1 y_0 y_1 y_2 e c H =
  (if (decide (c = 0)) = true then
  (C.len g_1).bind fun k2 =>
  some (decide (((k2 : Nat) : Int) = 0), H)
  else
  some (decide (c = 0), H)).bind fun q1 =>
  (if q1.1 = true then
  f6_5 M w g_0 g_1 g_2 x_0 x_1 y_0 y_1 y_2 e 1 q1.2
  else
  f6_5 M w g_0 g_1 g_2 x_0 x_1 y_0 y_1 y_2 e c q1.2) := by
  unfold f6_4 mrun; rw [run_eq]; kernel_rfl
theorem f6_5_eq (M : Mach) (w : C) (g_0 : Int) (g_1 : C) (g_2 : C) (x_0 : Int) (x_1 : Int) (y_0 : Int) (y_1 : C) (y_2 : Bool) (e : Int) (c : Int) (H : Heap) : f6_5 M w g_0 g_1 g_2 x_0 x_1 y_0 y_1 y_2 e c H =
  (if (!decide (c = 0)) = true then
  (if (decide (e = c)) = true then
  (f21 M y_0 y_1 y_2 0 .nilSlice false H).bind fun q2 =>
  (V.asC q2.1).bind fun c3 =>
  (C.asB c3).bind fun b4 =>
  some (b4, q2.2)
  else
  some (decide (e = c), H)).bind fun q1 =>
  some ((.c (.bool q1.1)), q1.2)
  else
  (if (!decide (e = 0)) = false then
  (f27 M g_0 g_1 g_2 w x_0 x_1 H).bind fun q6 =>
  (V.asA q6.1).bind fun c7 =>
  (headC c7).bind fun c8 =>
  (C.asI .i64 c8).bind fun n9 =>
  (headC (c7.drop 1)).bind fun c10 =>
  (headC ((c7.drop 1).drop 1)).bind fun c11 =>
  (C.asB c11).bind fun b12 =>
  (if ((((c7.drop 1).drop 1).drop 1)).length = 0 then
  (f21 M y_0 y_1 y_2 n9 c10 b12 q6.2).bind fun q13 =>
  (V.asC q13.1).bind fun c14 =>
  (C.asB c14).bind fun b15 =>
  some (!b15, q13.2)
  else
  none)
  else
  some (!decide (e = 0), H)).bind fun q5 =>
  (if q5.1 = true then
  some ((.c (.bool false)), q5.2)
  else
  (f18 M g_0 g_1 g_2 q5.2).bind fun q16 =>
  (V.asA q16.1).bind fun c17 =>
  (headC c17).bind fun c18 =>
  (C.asI .i64 c18).bind fun n19 =>
  (headC (c17.drop 1)).bind fun c20 =>
  (headC ((c17.drop 1).drop 1)).bind fun c21 =>
  (if ((((c17.drop 1).drop 1).drop 1)).length = 0 then
  (f29 M y_0 y_1 y_2 q16.2).bind fun q22 =>
  (V.asA q22.1).bind fun c23 =>
  (headC c23).bind fun c24 =>
  (C.asI .i64 c24).bind fun n25 =>
  (headC (c23.drop 1)).bind fun c26 =>
  (headC ((c23.drop 1).drop 1)).bind fun c27 =>
  (C.asB c27).bind fun b28 =>
  (if ((((c23.drop 1).drop 1).drop 1)).length = 0 then
  (f28 M n19 c20 c21 n25 c26 b28 q22.2).bind fun q29 =>
  (V.ext q29.1 0).bind fun v30 =>
  (V.asC v30).bind fun c31 =>
  (C.asI .i64 c31).bind fun n32 =>
  (V.ext q29.1 1).bind fun v33 =>
  (V.asC v33).bind fun c34 =>
  (C.asI .i64 c34).bind fun n35 =>
  some ((.c (.bool (decide (n35 = 0)))), q29.2)
  else
  none)
  else
  none))) := by
  unfold f6_5 mrun; rw [run_eq]; kernel_rfl
-- stutter/stutterlaw20.SimulateChecks
theorem f7_eq (M : Mach) (g_0 : Int) (g_1 : C) (g_2 : C) (x_0 : Int) (x_1 : C) (x_2 : Bool) (H : Heap) : f7 M g_0 g_1 g_2 x_0 x_1 x_2 H =
  (f10 M H).bind fun q1 =>
  (V.asC q1.1).bind fun c2 =>
  (C.asB c2).bind fun b3 =>
  (if (!b3) = true then
  some ((.c (.bool false)), q1.2)
  else
  (f16 M g_0 g_1 g_2 q1.2).bind fun q4 =>
  (V.asC q4.1).bind fun c5 =>
  (C.asB c5).bind fun b6 =>
  (if (!b6) = false then
  let H8 := Heap.alloc q4.2 (.cells 3 [(.int .i64 x_0), x_1, (.bool x_2)])
  (f30 M (.slice q4.2.next 0 1) H8).bind fun q9 =>
  (V.asC q9.1).bind fun c10 =>
  (C.asB c10).bind fun b11 =>
  some (!b11, q9.2)
  else
  some (!b6, q4.2)).bind fun q7 =>
  (if q7.1 = true then
  some ((.c (.bool true)), q7.2)
  else
  (f18 M g_0 g_1 g_2 q7.2).bind fun q12 =>
  (V.asA q12.1).bind fun c13 =>
  (headC c13).bind fun c14 =>
  (C.asI .i64 c14).bind fun n15 =>
  (headC (c13.drop 1)).bind fun c16 =>
  (headC ((c13.drop 1).drop 1)).bind fun c17 =>
  (if ((((c13.drop 1).drop 1).drop 1)).length = 0 then
  (f29 M x_0 x_1 x_2 q12.2).bind fun q18 =>
  (V.asA q18.1).bind fun c19 =>
  (headC c19).bind fun c20 =>
  (C.asI .i64 c20).bind fun n21 =>
  (headC (c19.drop 1)).bind fun c22 =>
  (headC ((c19.drop 1).drop 1)).bind fun c23 =>
  (C.asB c23).bind fun b24 =>
  (if ((((c19.drop 1).drop 1).drop 1)).length = 0 then
  (f28 M n15 c16 c17 n21 c22 b24 q18.2).bind fun q25 =>
  (V.ext q25.1 0).bind fun v26 =>
  (V.asC v26).bind fun c27 =>
  (C.asI .i64 c27).bind fun n28 =>
  (V.ext q25.1 1).bind fun v29 =>
  (V.asC v29).bind fun c30 =>
  (C.asI .i64 c30).bind fun n31 =>
  (f31 M g_0 g_1 g_2 x_0 x_1 x_2 q25.2).bind fun q32 =>
  (V.ext q32.1 0).bind fun v33 =>
  (V.asC v33).bind fun c34 =>
  (C.asI .i64 c34).bind fun n35 =>
  (V.ext q32.1 1).bind fun v36 =>
  (V.asC v36).bind fun c37 =>
  (C.asI .i64 c37).bind fun n38 =>
  (if (decide (n31 = n38)) = true then
  some (decide (n28 = n35), q32.2)
  else
  some (decide (n31 = n38), q32.2)).bind fun q39 =>
  some ((.c (.bool q39.1)), q39.2)
  else
  none)
  else
  none))) := by
  unfold f7 mrun; rw [run_eq]; kernel_rfl
-- stutter/stutterlaw20.SimulateTours
theorem f8_eq (M : Mach) (g_0 : Int) (g_1 : C) (g_2 : C) (most : Int) (H : Heap) : f8 M g_0 g_1 g_2 most H =
  (f10 M H).bind fun q1 =>
  (V.asC q1.1).bind fun c2 =>
  (C.asB c2).bind fun b3 =>
  (if (!b3) = true then
  some ((.c (.bool false)), q1.2)
  else
  (f16 M g_0 g_1 g_2 q1.2).bind fun q4 =>
  (V.asC q4.1).bind fun c5 =>
  (C.asB c5).bind fun b6 =>
  (if (!b6) = true then
  some ((.c (.bool true)), q4.2)
  else
  (f18 M g_0 g_1 g_2 q4.2).bind fun q7 =>
  (V.asA q7.1).bind fun c8 =>
  (headC c8).bind fun c9 =>
  (C.asI .i64 c9).bind fun n10 =>
  (headC (c8.drop 1)).bind fun c11 =>
  (headC ((c8.drop 1).drop 1)).bind fun c12 =>
  (if ((((c8.drop 1).drop 1).drop 1)).length = 0 then
  (f32 M n10 c11 c12 most q7.2).bind fun q13 =>
  (V.ext q13.1 0).bind fun v14 =>
  (V.asC v14).bind fun c15 =>
  (V.ext q13.1 1).bind fun v16 =>
  (V.asC v16).bind fun c17 =>
  (C.asI .i64 c17).bind fun n18 =>
  (f20 M g_0 g_1 g_2 q13.2).bind fun q19 =>
  (V.asC q19.1).bind fun c20 =>
  (C.asB c20).bind fun b21 =>
  (if (!b21) = true then
  (if (decide (n18 = 5)) = true then
  (C.len c15).bind fun k23 =>
  some (decide (((k23 : Nat) : Int) = 0), q19.2)
  else
  some (decide (n18 = 5), q19.2)).bind fun q22 =>
  some ((.c (.bool q22.1)), q22.2)
  else
  (f13 M most 1 300 q19.2).bind fun q24 =>
  (V.asC q24.1).bind fun c25 =>
  (C.asB c25).bind fun b26 =>
  (if (!b26) = true then
  (if (decide (n18 = 3)) = true then
  (C.len c15).bind fun k28 =>
  some (decide (((k28 : Nat) : Int) = 0), q24.2)
  else
  some (decide (n18 = 3), q24.2)).bind fun q27 =>
  some ((.c (.bool q27.1)), q27.2)
  else
  (f22 M g_0 g_1 g_2 q24.2).bind fun q29 =>
  (V.asC q29.1).bind fun c30 =>
  (f33 M g_0 g_1 g_2 .nilSlice q29.2).bind fun q31 =>
  (V.asC q31.1).bind fun c32 =>
  f8_1 M most g_0 g_1 g_2 c15 n18 c30 c32 0 q31.2))
  else
  none))) := by
  unfold f8 mrun; rw [run_eq]; kernel_rfl
theorem f8_1_eq (M : Mach) (most : Int) (g_0 : Int) (g_1 : C) (g_2 : C) (l : C) (e : Int) (far : C) (all : C) (i : Int) (H : Heap) : f8_1 M most g_0 g_1 g_2 l e far all i H =
  (C.len all).bind fun k1 =>
  (if (decide (i < ((k1 : Nat) : Int))) = true then
  (C.elem 1 all i).bind fun q2 =>
  (Heap.ld H q2.1 q2.2).bind fun c3 =>
  (C.asI .i64 c3).bind fun n4 =>
  (C.elem 3 g_2 n4).bind fun q5 =>
  (Heap.ld H q5.1 q5.2).bind fun c6 =>
  (C.asI .i64 c6).bind fun n7 =>
  (C.elem 1 far n7).bind fun q8 =>
  (Heap.ld H q8.1 q8.2).bind fun c9 =>
  (C.asI .i64 c9).bind fun n10 =>
  (if (decide (most < (IntKind.wrap .i64 (n10 + 1)))) = true then
  (if (decide (e = 25)) = true then
  (C.len l).bind fun k12 =>
  some (decide (((k12 : Nat) : Int) = 0), H)
  else
  some (decide (e = 25), H)).bind fun q11 =>
  some ((.c (.bool q11.1)), q11.2)
  else
  f8_1 M most g_0 g_1 g_2 l e far all (IntKind.wrap .i64 (i + 1)) H)
  else
  (if (!decide (e = 0)) = false then
  (C.len l).bind fun k14 =>
  (C.len all).bind fun k15 =>
  some (decide (((k15 : Nat) : Int) < ((k14 : Nat) : Int)), H)
  else
  some (!decide (e = 0), H)).bind fun q13 =>
  (if q13.1 = false then
  (f34 M g_0 g_1 g_2 l q13.2).bind fun q17 =>
  (V.asC q17.1).bind fun c18 =>
  (C.asI .i64 c18).bind fun n19 =>
  some (!decide (n19 = 0), q17.2)
  else
  some (q13.1, q13.2)).bind fun q16 =>
  (if q16.1 = true then
  some ((.c (.bool false)), q16.2)
  else
  f8_2 M most g_0 g_1 g_2 l 0 q16.2)) := by
  unfold f8_1 mrun; rw [run_eq]; kernel_rfl
theorem f8_2_eq (M : Mach) (most : Int) (g_0 : Int) (g_1 : C) (g_2 : C) (l : C) (i : Int) (H : Heap) : f8_2 M most g_0 g_1 g_2 l i H =
  (C.len l).bind fun k1 =>
  (if (decide (i < ((k1 : Nat) : Int))) = true then
  (C.elem 3 l i).bind fun q2 =>
  (Heap.ld H q2.1 (q2.2 + 1)).bind fun c3 =>
  (C.len c3).bind fun k4 =>
  (if (decide (((k4 : Nat) : Int) = 0)) = false then
  some (decide (most < ((k4 : Nat) : Int)), H)
  else
  some (decide (((k4 : Nat) : Int) = 0), H)).bind fun q5 =>
  (if q5.1 = true then
  some ((.c (.bool false)), q5.2)
  else
  (Heap.sub M.lim q5.2 3 l 0 (some i)).bind fun c6 =>
  (f35 M g_0 g_1 g_2 c6 q5.2).bind fun q7 =>
  (V.asA q7.1).bind fun c8 =>
  (headC c8).bind fun c9 =>
  (headC (c8.drop 1)).bind fun c10 =>
  (if (((c8.drop 1).drop 1)).length = 0 then
  (C.elem 3 l i).bind fun q11 =>
  (Heap.ld q7.2 q11.1 (q11.2 + 1)).bind fun c12 =>
  (C.elem 1 c12 (IntKind.wrap .i64 (((k4 : Nat) : Int) - 1))).bind fun q13 =>
  (Heap.ld q7.2 q13.1 q13.2).bind fun c14 =>
  (C.asI .i64 c14).bind fun n15 =>
  (C.elem 1 c10 n15).bind fun q16 =>
  (Heap.ld q7.2 q16.1 q16.2).bind fun c17 =>
  (C.asI .i64 c17).bind fun n18 =>
  (if (decide (0 < n18)) = true then
  some ((.c (.bool false)), q7.2)
  else
  f8_2 M most g_0 g_1 g_2 l (IntKind.wrap .i64 (i + 1)) q7.2)
  else
  none))
  else
  (f33 M g_0 g_1 g_2 l H).bind fun q19 =>
  (V.asC q19.1).bind fun c20 =>
  (C.len c20).bind fun k21 =>
  some ((.c (.bool (decide (((k21 : Nat) : Int) = 0)))), q19.2)) := by
  unfold f8_2 mrun; rw [run_eq]; kernel_rfl
-- stutter/stutterlaw20.SimulateCovers
theorem f9_eq (M : Mach) (g_0 : Int) (g_1 : C) (g_2 : C) (l : C) (H : Heap) : f9 M g_0 g_1 g_2 l H =
  (f10 M H).bind fun q1 =>
  (V.asC q1.1).bind fun c2 =>
  (C.asB c2).bind fun b3 =>
  (if (!b3) = true then
  some ((.c (.bool false)), q1.2)
  else
  (f16 M g_0 g_1 g_2 q1.2).bind fun q4 =>
  (V.asC q4.1).bind fun c5 =>
  (C.asB c5).bind fun b6 =>
  (if (!b6) = false then
  (f30 M l q4.2).bind fun q8 =>
  (V.asC q8.1).bind fun c9 =>
  (C.asB c9).bind fun b10 =>
  some (!b10, q8.2)
  else
  some (!b6, q4.2)).bind fun q7 =>
  (if q7.1 = true then
  some ((.c (.bool true)), q7.2)
  else
  (f18 M g_0 g_1 g_2 q7.2).bind fun q11 =>
  (V.asA q11.1).bind fun c12 =>
  (headC c12).bind fun c13 =>
  (C.asI .i64 c13).bind fun n14 =>
  (headC (c12.drop 1)).bind fun c15 =>
  (headC ((c12.drop 1).drop 1)).bind fun c16 =>
  (if ((((c12.drop 1).drop 1).drop 1)).length = 0 then
  (f37 M l q11.2).bind fun q17 =>
  (V.asC q17.1).bind fun c18 =>
  (f36 M n14 c15 c16 c18 q17.2).bind fun q19 =>
  (V.ext q19.1 0).bind fun v20 =>
  (V.asA v20).bind fun c21 =>
  (headC c21).bind fun c22 =>
  (headC (c21.drop 1)).bind fun c23 =>
  (if (((c21.drop 1).drop 1)).length = 0 then
  (V.ext q19.1 1).bind fun v24 =>
  (V.asC v24).bind fun c25 =>
  (C.asI .i64 c25).bind fun n26 =>
  (f18 M g_0 g_1 g_2 q19.2).bind fun q27 =>
  (V.asA q27.1).bind fun c28 =>
  (headC c28).bind fun c29 =>
  (C.asI .i64 c29).bind fun n30 =>
  (headC (c28.drop 1)).bind fun c31 =>
  (headC ((c28.drop 1).drop 1)).bind fun c32 =>
  (if ((((c28.drop 1).drop 1).drop 1)).length = 0 then
  (f37 M l q27.2).bind fun q33 =>
  (V.asC q33.1).bind fun c34 =>
  (f38 M n30 c31 c32 c34 q33.2).bind fun q35 =>
  (V.ext q35.1 0).bind fun v36 =>
  (V.asC v36).bind fun c37 =>
  (V.ext q35.1 1).bind fun v38 =>
  (V.asC v38).bind fun c39 =>
  (C.asI .i64 c39).bind fun n40 =>
  (f34 M g_0 g_1 g_2 l q35.2).bind fun q41 =>
  (V.asC q41.1).bind fun c42 =>
  (C.asI .i64 c42).bind fun n43 =>
  (if (!decide (n43 = 0)) = true then
  (if (decide (n26 = n43)) = true then
  some (decide (n40 = n43), q41.2)
  else
  some (decide (n26 = n43), q41.2)).bind fun q44 =>
  (if q44.1 = true then
  (C.len c22).bind fun k46 =>
  (C.len c23).bind fun k47 =>
  (C.len c37).bind fun k48 =>
  some (decide ((IntKind.wrap .i64 ((IntKind.wrap .i64 (((k46 : Nat) : Int) + ((k47 : Nat) : Int))) + ((k48 : Nat) : Int))) = 0), q44.2)
  else
  some (q44.1, q44.2)).bind fun q45 =>
  some ((.c (.bool q45.1)), q45.2)
  else
  (f35 M g_0 g_1 g_2 l q41.2).bind fun q49 =>
  (V.asA q49.1).bind fun c50 =>
  (headC c50).bind fun c51 =>
  (headC (c50.drop 1)).bind fun c52 =>
  (if (((c50.drop 1).drop 1)).length = 0 then
  (if (!decide (n26 = 0)) = false then
  (f14 M c22 c51 q49.2).bind fun q54 =>
  (V.asC q54.1).bind fun c55 =>
  (C.asB c55).bind fun b56 =>
  some (!b56, q54.2)
  else
  some (!decide (n26 = 0), q49.2)).bind fun q53 =>
  (if q53.1 = false then
  (f14 M c23 c52 q53.2).bind fun q58 =>
  (V.asC q58.1).bind fun c59 =>
  (C.asB c59).bind fun b60 =>
  some (!b60, q58.2)
  else
  some (q53.1, q53.2)).bind fun q57 =>
  (if q57.1 = false then
  some (!decide (n40 = 0), q57.2)
  else
  some (q57.1, q57.2)).bind fun q61 =>
  (if q61.1 = false then
  (f33 M g_0 g_1 g_2 l q61.2).bind fun q63 =>
  (V.asC q63.1).bind fun c64 =>
  (f14 M c37 c64 q63.2).bind fun q65 =>
  (V.asC q65.1).bind fun c66 =>
  (C.asB c66).bind fun b67 =>
  some (!b67, q65.2)
  else
  some (q61.1, q61.2)).bind fun q62 =>
  (if q62.1 = true then
  some ((.c (.bool false)), q62.2)
  else
  f9_1 M l c22 c23 0 0 0 q62.2)
  else
  none))
  else
  none)
  else
  none)
  else
  none))) := by
  unfold f9 mrun; rw [run_eq]; kernel_rfl
theorem f9_1_eq (M : Mach) (l : C) (x_0 : C) (x_1 : C) (visits : Int) (steps : Int) (i : Int) (H : Heap) : f9_1 M l x_0 x_1 visits steps i H =
  (C.len x_0).bind fun k1 =>
  (if (decide (i < ((k1 : Nat) : Int))) = true then
  (C.elem 1 x_0 i).bind fun q2 =>
  (Heap.ld H q2.1 q2.2).bind fun c3 =>
  (C.asI .i64 c3).bind fun n4 =>
  f9_1 M l x_0 x_1 (IntKind.wrap .i64 (visits + n4)) steps (IntKind.wrap .i64 (i + 1)) H
  else
  f9_2 M l x_0 x_1 visits steps 0 H) := by
  unfold f9_1 mrun; rw [run_eq]; kernel_rfl
theorem f9_2_eq (M : Mach) (l : C) (x_0 : C) (x_1 : C) (visits : Int) (steps : Int) (i : Int) (H : Heap) : f9_2 M l x_0 x_1 visits steps i H =
  (C.len x_1).bind fun k1 =>
  (if (decide (i < ((k1 : Nat) : Int))) = true then
  (C.elem 1 x_1 i).bind fun q2 =>
  (Heap.ld H q2.1 q2.2).bind fun c3 =>
  (C.asI .i64 c3).bind fun n4 =>
  f9_2 M l x_0 x_1 visits (IntKind.wrap .i64 (steps + n4)) (IntKind.wrap .i64 (i + 1)) H
  else
  (C.len l).bind fun k5 =>
  some ((.c (.bool (decide (visits = (IntKind.wrap .i64 (((k5 : Nat) : Int) + steps)))))), H)) := by
  unfold f9_2 mrun; rw [run_eq]; kernel_rfl
-- stutter/stutterlaw20.awake
theorem f10_eq (M : Mach) (ho : M.out = false) (H : Heap) : f10 M H =
  (f11 M 1 2 H).bind fun q1 =>
  (V.ext q1.1 0).bind fun v2 =>
  (V.asC v2).bind fun c3 =>
  (V.ext q1.1 1).bind fun v4 =>
  (V.asC v4).bind fun c5 =>
  (C.asI .i64 c5).bind fun n6 =>
  (f39 M q1.2).bind fun q7 =>
  (V.asA q7.1).bind fun c8 =>
  (headC c8).bind fun c9 =>
  (C.asI .i64 c9).bind fun n10 =>
  (headC (c8.drop 1)).bind fun c11 =>
  (headC ((c8.drop 1).drop 1)).bind fun c12 =>
  (if ((((c8.drop 1).drop 1).drop 1)).length = 0 then
  (f40 M q7.2).bind fun q13 =>
  (V.asC q13.1).bind fun c14 =>
  (f25 M n10 c11 c12 c14 1 2 q13.2).bind fun q15 =>
  (V.ext q15.1 0).bind fun v16 =>
  (V.asA v16).bind fun c17 =>
  (headC c17).bind fun c18 =>
  (C.asI .i64 c18).bind fun n19 =>
  (headC (c17.drop 1)).bind fun c20 =>
  (headC ((c17.drop 1).drop 1)).bind fun c21 =>
  (C.asB c21).bind fun b22 =>
  (if ((((c17.drop 1).drop 1).drop 1)).length = 0 then
  (V.ext q15.1 1).bind fun v23 =>
  (V.asC v23).bind fun c24 =>
  (C.asI .i64 c24).bind fun n25 =>
  (f40 M q15.2).bind fun q26 =>
  (V.asC q26.1).bind fun c27 =>
  (C.elem 1 c27 0).bind fun q28 =>
  (Heap.st M.lim q26.2 q28.1 q28.2 [(.int .i64 0)]).bind fun H29 =>
  (f39 M H29).bind fun q30 =>
  (V.asA q30.1).bind fun c31 =>
  (headC c31).bind fun c32 =>
  (C.asI .i64 c32).bind fun n33 =>
  (headC (c31.drop 1)).bind fun c34 =>
  (headC ((c31.drop 1).drop 1)).bind fun c35 =>
  (if ((((c31.drop 1).drop 1).drop 1)).length = 0 then
  (f25 M n33 c34 c35 c27 1 2 q30.2).bind fun q36 =>
  (V.ext q36.1 0).bind fun v37 =>
  (V.asA v37).bind fun c38 =>
  (headC c38).bind fun c39 =>
  (C.asI .i64 c39).bind fun n40 =>
  (headC (c38.drop 1)).bind fun c41 =>
  (headC ((c38.drop 1).drop 1)).bind fun c42 =>
  (C.asB c42).bind fun b43 =>
  (if ((((c38.drop 1).drop 1).drop 1)).length = 0 then
  (V.ext q36.1 1).bind fun v44 =>
  (V.asC v44).bind fun c45 =>
  (C.asI .i64 c45).bind fun n46 =>
  (f39 M q36.2).bind fun q47 =>
  (V.asA q47.1).bind fun c48 =>
  (headC c48).bind fun c49 =>
  (C.asI .i64 c49).bind fun n50 =>
  (headC (c48.drop 1)).bind fun c51 =>
  (headC ((c48.drop 1).drop 1)).bind fun c52 =>
  (if ((((c48.drop 1).drop 1).drop 1)).length = 0 then
  (f17 M n50 c51 c52 q47.2).bind fun q53 =>
  (V.ext q53.1 0).bind fun v54 =>
  (V.asC v54).bind fun c55 =>
  (V.ext q53.1 1).bind fun v56 =>
  (V.asC v56).bind fun c57 =>
  (C.asI .i64 c57).bind fun n58 =>
  (f39 M q53.2).bind fun q59 =>
  (V.asA q59.1).bind fun c60 =>
  (headC c60).bind fun c61 =>
  (C.asI .i64 c61).bind fun n62 =>
  (headC (c60.drop 1)).bind fun c63 =>
  (headC ((c60.drop 1).drop 1)).bind fun c64 =>
  (if ((((c60.drop 1).drop 1).drop 1)).length = 0 then
  (f19 M n62 c63 c64 2 q59.2).bind fun q65 =>
  (V.ext q65.1 0).bind fun v66 =>
  (V.asA v66).bind fun c67 =>
  (headC c67).bind fun c68 =>
  (C.asI .i64 c68).bind fun n69 =>
  (headC (c67.drop 1)).bind fun c70 =>
  (headC ((c67.drop 1).drop 1)).bind fun c71 =>
  (C.asB c71).bind fun b72 =>
  (if ((((c67.drop 1).drop 1).drop 1)).length = 0 then
  (V.ext q65.1 1).bind fun v73 =>
  (V.asC v73).bind fun c74 =>
  (C.asI .i64 c74).bind fun n75 =>
  (if (decide (n6 = 0)) = true then
  let H77 := Heap.alloc q65.2 (.cells 1 [(.int .i64 48271), (.int .i64 182605794)])
  (f14 M c3 (.slice q65.2.next 0 2) H77).bind fun q78 =>
  (V.asC q78.1).bind fun c79 =>
  (C.asB c79).bind fun b80 =>
  some (b80, q78.2)
  else
  some (decide (n6 = 0), q65.2)).bind fun q76 =>
  (if q76.1 = true then
  some (decide (n25 = 0), q76.2)
  else
  some (q76.1, q76.2)).bind fun q81 =>
  (if q81.1 = true then
  let H83 := Heap.alloc q81.2 (.cells 1 [(.int .i64 0), (.int .i64 2)])
  (f14 M c20 (.slice q81.2.next 0 2) H83).bind fun q84 =>
  (V.asC q84.1).bind fun c85 =>
  (C.asB c85).bind fun b86 =>
  some (b86, q84.2)
  else
  some (q81.1, q81.2)).bind fun q82 =>
  (if q82.1 = true then
  some (!b22, q82.2)
  else
  some (q82.1, q82.2)).bind fun q87 =>
  (if q87.1 = true then
  some (decide (n46 = 0), q87.2)
  else
  some (q87.1, q87.2)).bind fun q88 =>
  (if q88.1 = true then
  let H90 := Heap.alloc q88.2 (.cells 1 [(.int .i64 1)])
  (f14 M c41 (.slice q88.2.next 0 1) H90).bind fun q91 =>
  (V.asC q91.1).bind fun c92 =>
  (C.asB c92).bind fun b93 =>
  some (b93, q91.2)
  else
  some (q88.1, q88.2)).bind fun q89 =>
  (if q89.1 = true then
  some (b43, q89.2)
  else
  some (q89.1, q89.2)).bind fun q94 =>
  (if q94.1 = true then
  some (decide (n58 = 0), q94.2)
  else
  some (q94.1, q94.2)).bind fun q95 =>
  (if q95.1 = true then
  let H97 := Heap.alloc q95.2 (.cells 1 [(.int .i64 0), (.int .i64 1), (.int .i64 1)])
  (f14 M c55 (.slice q95.2.next 0 3) H97).bind fun q98 =>
  (V.asC q98.1).bind fun c99 =>
  (C.asB c99).bind fun b100 =>
  some (b100, q98.2)
  else
  some (q95.1, q95.2)).bind fun q96 =>
  (if q96.1 = true then
  some (decide (n75 = 0), q96.2)
  else
  some (q96.1, q96.2)).bind fun q101 =>
  (if q101.1 = true then
  let H103 := Heap.alloc q101.2 (.cells 1 [(.int .i64 1)])
  (f14 M c70 (.slice q101.2.next 0 1) H103).bind fun q104 =>
  (V.asC q104.1).bind fun c105 =>
  (C.asB c105).bind fun b106 =>
  some (b106, q104.2)
  else
  some (q101.1, q101.2)).bind fun q102 =>
  some ((.c (.bool q102.1)), q102.2)
  else
  none)
  else
  none)
  else
  none)
  else
  none)
  else
  none)
  else
  none)
  else
  none) := by
  obtain ⟨x, l, o⟩ := M; cases ho; unfold f10 mrun; rw [run_eq]; kernel_rfl
-- stutter/simulate.NumbersOf
theorem f11_eq (M : Mach) (seed : Int) (count : Int) (H : Heap) : f11 M seed count H =
  (f42 M seed H).bind fun q1 =>
  (V.asC q1.1).bind fun c2 =>
  (C.asI .i64 c2).bind fun n3 =>
  (f44 M count 0 300 q1.2).bind fun q4 =>
  (V.asC q4.1).bind fun c5 =>
  (C.asB c5).bind fun b6 =>
  (f43 M b6 2 q4.2).bind fun q7 =>
  (V.asC q7.1).bind fun c8 =>
  (C.asI .i64 c8).bind fun n9 =>
  let H10 := Heap.alloc q7.2 (.cells 1 [(.int .i64 n3), (.int .i64 n9)])
  (f41 M (.slice q7.2.next 0 2) H10).bind fun q11 =>
  (V.asC q11.1).bind fun c12 =>
  (C.asI .i64 c12).bind fun n13 =>
  (if (!decide (n13 = 0)) = true then
  some ((.tuple [(.c .nilSlice), (.c (.int .i64 n13))]), q11.2)
  else
  let H14 := Heap.alloc q11.2 (.cells 1 [(.int .i64 seed)])
  f11_1 M (.ptr q11.2.next 0) .nilSlice count 0 H14) := by
  unfold f11 mrun; rw [run_eq]; kernel_rfl
theorem f11_1_eq (M : Mach) (n : C) (out : C) (x22 : Int) (x23 : Int) (H : Heap) : f11_1 M n out x22 x23 H =
  (if (decide (x23 < x22)) = true then
  (f45 M n H).bind fun q1 =>
  (V.asC q1.1).bind fun c2 =>
  (C.asI .i64 c2).bind fun n3 =>
  let H4 := Heap.alloc q1.2 (.cells 1 [(.int .i64 n3)])
  (Heap.cellsOf H4 1 (.slice q1.2.next 0 1)).bind fun xs5 =>
  (Heap.app M.lim H4 1 out xs5 1).bind fun q6 =>
  f11_1 M n q6.1 x22 (IntKind.wrap .i64 (x23 + 1)) q6.2
  else
  some ((.tuple [(.c out), (.c (.int .i64 0))]), H)) := by
  unfold f11_1 mrun; rw [run_eq]; kernel_rfl
-- stutter/stutterref20.SeedErr
theorem f12_eq (M : Mach) (seed : Int) (H : Heap) : f12 M seed H =
  (f13 M seed 1 2147483646 H).bind fun q1 =>
  (V.asC q1.1).bind fun c2 =>
  (C.asB c2).bind fun b3 =>
  (if (!b3) = true then
  some ((.c (.int .i64 3)), q1.2)
  else
  some ((.c (.int .i64 0)), q1.2)) := by
  unfold f12 mrun; rw [run_eq]; kernel_rfl
-- stutter/stutterbase.Between
theorem f13_eq (M : Mach) (n : Int) (low : Int) (high : Int) (H : Heap) : f13 M n low high H =
  (if (decide (low ≤ n)) = true then
  some (decide (n ≤ high), H)
  else
  some (decide (low ≤ n), H)).bind fun q1 =>
  some ((.c (.bool q1.1)), q1.2) := by
  unfold f13 mrun; rw [run_eq]; kernel_rfl
-- stutter/stutterbase.EqualInts
theorem f14_eq (M : Mach) (a : C) (b : C) (H : Heap) : f14 M a b H =
  (C.len a).bind fun k1 =>
  (C.len b).bind fun k2 =>
  (if (!decide (((k1 : Nat) : Int) = ((k2 : Nat) : Int))) = true then
  some ((.c (.bool false)), H)
  else
  f14_1 M a b 0 H) := by
  unfold f14 mrun; rw [run_eq]; kernel_rfl
theorem f14_1_eq (M : Mach) (a : C) (b : C) (i : Int) (H : Heap) : f14_1 M a b i H =
  (C.len a).bind fun k1 =>
  (if (decide (i < ((k1 : Nat) : Int))) = true then
  (C.elem 1 a i).bind fun q2 =>
  (Heap.ld H q2.1 q2.2).bind fun c3 =>
  (C.asI .i64 c3).bind fun n4 =>
  (C.elem 1 b i).bind fun q5 =>
  (Heap.ld H q5.1 q5.2).bind fun c6 =>
  (C.asI .i64 c6).bind fun n7 =>
  (if (!decide (n4 = n7)) = true then
  some ((.c (.bool false)), H)
  else
  f14_1 M a b (IntKind.wrap .i64 (i + 1)) H)
  else
  some ((.c (.bool true)), H)) := by
  unfold f14_1 mrun; rw [run_eq]; kernel_rfl
-- stutter/stutterref20.Numbers
theorem f15_eq (M : Mach) (seed : Int) (count : Int) (H : Heap) : f15 M seed count H =
  f15_1 M seed count .nilSlice 0 H := by
  unfold f15 mrun; rw [run_eq]; kernel_rfl
theorem f15_1_eq (M : Mach) (seed : Int) (count : Int) (out : C) (i : Int) (H : Heap) : f15_1 M seed count out i H =
  (if (decide (i < count)) = true then
  let H1 := Heap.alloc H (.cells 1 [(.int .i64 (Int.tmod (IntKind.wrap .i64 (seed * 48271)) 2147483647))])
  (Heap.cellsOf H1 1 (.slice H.next 0 1)).bind fun xs2 =>
  (Heap.app M.lim H1 1 out xs2 1).bind fun q3 =>
  f15_1 M (Int.tmod (IntKind.wrap .i64 (seed * 48271)) 2147483647) count q3.1 (IntKind.wrap .i64 (i + 1)) q3.2
  else
  some ((.c out), H)) := by
  unfold f15_1 mrun; rw [run_eq]; kernel_rfl
-- stutter/stutterlaw20.few
theorem f16_eq (M : Mach) (g_0 : Int) (g_1 : C) (g_2 : C) (H : Heap) : f16 M g_0 g_1 g_2 H =
  (if (decide (g_0 ≤ 20)) = true then
  (C.len g_1).bind fun k2 =>
  some (decide (((k2 : Nat) : Int) ≤ 22), H)
  else
  some (decide (g_0 ≤ 20), H)).bind fun q1 =>
  (if q1.1 = true then
  (C.len g_2).bind fun k4 =>
  some (decide (((k4 : Nat) : Int) ≤ 60), q1.2)
  else
  some (q1.1, q1.2)).bind fun q3 =>
  some ((.c (.bool q3.1)), q3.2) := by
  unfold f16 mrun; rw [run_eq]; kernel_rfl
-- stutter/simulate.DistancesIn
theorem f17_eq (M : Mach) (g_0 : Int) (g_1 : C) (g_2 : C) (H : Heap) : f17 M g_0 g_1 g_2 H =
  (f46 M g_0 g_1 g_2 H).bind fun q1 =>
  (V.asC q1.1).bind fun c2 =>
  (C.asI .i64 c2).bind fun n3 =>
  (if (!decide (n3 = 0)) = true then
  some ((.tuple [(.c .nilSlice), (.c (.int .i64 n3))]), q1.2)
  else
  (f47 M g_0 g_1 g_2 g_1 q1.2).bind fun q4 =>
  (V.asA q4.1).bind fun c5 =>
  (headC c5).bind fun c6 =>
  (C.asI .i64 c6).bind fun n7 =>
  (headC (c5.drop 1)).bind fun c8 =>
  (headC ((c5.drop 1).drop 1)).bind fun c9 =>
  (headC (((c5.drop 1).drop 1).drop 1)).bind fun c10 =>
  (headC ((((c5.drop 1).drop 1).drop 1).drop 1)).bind fun c11 =>
  (if ((((((c5.drop 1).drop 1).drop 1).drop 1).drop 1)).length = 0 then
  some ((.tuple [(.c c10), (.c (.int .i64 0))]), q4.2)
  else
  none)) := by
  unfold f17 mrun; rw [run_eq]; kernel_rfl
-- stutter/stutterbase.OwnGraph
theorem f18_eq (M : Mach) (g_0 : Int) (g_1 : C) (g_2 : C) (H : Heap) : f18 M g_0 g_1 g_2 H =
  (f26 M g_1 H).bind fun q1 =>
  (V.asC q1.1).bind fun c2 =>
  let H3 := Heap.alloc q1.2 (.cells 3 [])
  (Heap.cellsOf H3 3 g_2).bind fun xs4 =>
  (C.len g_2).bind fun k5 =>
  (Heap.app M.lim H3 3 (.slice q1.2.next 0 0) xs4 k5).bind fun q6 =>
  some ((.agg [(.int .i64 g_0), c2, q6.1]), q6.2) := by
  unfold f18 mrun; rw [run_eq]; kernel_rfl
-- stutter/simulate.LeastWalk
theorem f19_eq (M : Mach) (g_0 : Int) (g_1 : C) (g_2 : C) (to : Int) (H : Heap) : f19 M g_0 g_1 g_2 to H =
  (f46 M g_0 g_1 g_2 H).bind fun q1 =>
  (V.asC q1.1).bind fun c2 =>
  (C.asI .i64 c2).bind fun n3 =>
  (f44 M to 0 (IntKind.wrap .i64 (g_0 - 1)) q1.2).bind fun q4 =>
  (V.asC q4.1).bind fun c5 =>
  (C.asB c5).bind fun b6 =>
  (f43 M b6 3 q4.2).bind fun q7 =>
  (V.asC q7.1).bind fun c8 =>
  (C.asI .i64 c8).bind fun n9 =>
  let H10 := Heap.alloc q7.2 (.cells 1 [(.int .i64 n3), (.int .i64 n9)])
  (f41 M (.slice q7.2.next 0 2) H10).bind fun q11 =>
  (V.asC q11.1).bind fun c12 =>
  (C.asI .i64 c12).bind fun n13 =>
  (if (!decide (n13 = 0)) = true then
  some ((.tuple [(.agg [(.int .i64 0), .nilSlice, (.bool false)]), (.c (.int .i64 n13))]), q11.2)
  else
  (f47 M g_0 g_1 g_2 g_1 q11.2).bind fun q14 =>
  (V.asA q14.1).bind fun c15 =>
  (headC c15).bind fun c16 =>
  (C.asI .i64 c16).bind fun n17 =>
  (headC (c15.drop 1)).bind fun c18 =>
  (headC ((c15.drop 1).drop 1)).bind fun c19 =>
  (headC (((c15.drop 1).drop 1).drop 1)).bind fun c20 =>
  (headC ((((c15.drop 1).drop 1).drop 1).drop 1)).bind fun c21 =>
  (if ((((((c15.drop 1).drop 1).drop 1).drop 1).drop 1)).length = 0 then
  (C.elem 1 c20 to).bind fun q22 =>
  (Heap.ld q14.2 q22.1 q22.2).bind fun c23 =>
  (C.asI .i64 c23).bind fun n24 =>
  (if (decide (n24 = (-1))) = true then
  some ((.tuple [(.agg [(.int .i64 0), .nilSlice, (.bool false)]), (.c (.int .i64 25))]), q14.2)
  else
  (f48 M n17 c18 c19 c20 c21 to q14.2).bind fun q25 =>
  (V.ext q25.1 0).bind fun v26 =>
  (V.asC v26).bind fun c27 =>
  (C.asI .i64 c27).bind fun n28 =>
  (V.ext q25.1 1).bind fun v29 =>
  (V.asC v29).bind fun c30 =>
  some ((.tuple [(.agg [(.int .i64 n28), c30, (.bool false)]), (.c (.int .i64 0))]), q25.2))
  else
  none)) := by
  unfold f19 mrun; rw [run_eq]; kernel_rfl
-- stutter/stutterbase.IsGraph
theorem f20_eq (M : Mach) (g_0 : Int) (g_1 : C) (g_2 : C) (H : Heap) : f20 M g_0 g_1 g_2 H =
  (f13 M g_0 0 400 H).bind fun q1 =>
  (V.asC q1.1).bind fun c2 =>
  (C.asB c2).bind fun b3 =>
  (if (!b3) = false then
  (C.len g_1).bind fun k5 =>
  some (decide (g_0 < ((k5 : Nat) : Int)), q1.2)
  else
  some (!b3, q1.2)).bind fun q4 =>
  (if q4.1 = false then
  (C.len g_2).bind fun k7 =>
  some (decide (2000 < ((k7 : Nat) : Int)), q4.2)
  else
  some (q4.1, q4.2)).bind fun q6 =>
  (if q6.1 = true then
  some ((.c (.bool false)), q6.2)
  else
  f20_1 M g_0 g_1 g_2 0 q6.2) := by
  unfold f20 mrun; rw [run_eq]; kernel_rfl
theorem f20_1_eq (M : Mach) (g_0 : Int) (g_1 : C) (g_2 : C) (i : Int) (H : Heap) : f20_1 M g_0 g_1 g_2 i H =
  (C.len g_1).bind fun k1 =>
  (if (decide (i < ((k1 : Nat) : Int))) = true then
  (C.elem 1 g_1 i).bind fun q2 =>
  (Heap.ld H q2.1 q2.2).bind fun c3 =>
  (C.asI .i64 c3).bind fun n4 =>
  (f13 M n4 0 (IntKind.wrap .i64 (g_0 - 1)) H).bind fun q5 =>
  (V.asC q5.1).bind fun c6 =>
  (C.asB c6).bind fun b7 =>
  (if (!b7) = false then
  (if (decide (0 < i)) = true then
  (C.elem 1 g_1 i).bind fun q10 =>
  (Heap.ld q5.2 q10.1 q10.2).bind fun c11 =>
  (C.asI .i64 c11).bind fun n12 =>
  (C.elem 1 g_1 (IntKind.wrap .i64 (i - 1))).bind fun q13 =>
  (Heap.ld q5.2 q13.1 q13.2).bind fun c14 =>
  (C.asI .i64 c14).bind fun n15 =>
  some (decide (n12 ≤ n15), q5.2)
  else
  some (decide (0 < i), q5.2)).bind fun q9 =>
  some (q9.1, q9.2)
  else
  some (!b7, q5.2)).bind fun q8 =>
  (if q8.1 = true then
  some ((.c (.bool false)), q8.2)
  else
  f20_1 M g_0 g_1 g_2 (IntKind.wrap .i64 (i + 1)) q8.2)
  else
  f20_2 M g_0 g_1 g_2 0 H) := by
  unfold f20_1 mrun; rw [run_eq]; kernel_rfl
theorem f20_2_eq (M : Mach) (g_0 : Int) (g_1 : C) (g_2 : C) (i : Int) (H : Heap) : f20_2 M g_0 g_1 g_2 i H =
  (C.len g_2).bind fun k1 =>
  (if (decide (i < ((k1 : Nat) : Int))) = true then
  (C.elem 3 g_2 i).bind fun q2 =>
  (Heap.ld H q2.1 q2.2).bind fun c3 =>
  (C.asI .i64 c3).bind fun n4 =>
  (Heap.ld H q2.1 (q2.2 + 1)).bind fun c5 =>
  (C.asI .i64 c5).bind fun n6 =>
  (Heap.ld H q2.1 ((q2.2 + 1) + 1)).bind fun c7 =>
  (C.asI .i64 c7).bind fun n8 =>
  (f13 M n4 0 (IntKind.wrap .i64 (g_0 - 1)) H).bind fun q9 =>
  (V.asC q9.1).bind fun c10 =>
  (C.asB c10).bind fun b11 =>
  (if (!b11) = false then
  (f13 M n6 0 (IntKind.wrap .i64 (g_0 - 1)) q9.2).bind fun q13 =>
  (V.asC q13.1).bind fun c14 =>
  (C.asB c14).bind fun b15 =>
  some (!b15, q13.2)
  else
  some (!b11, q9.2)).bind fun q12 =>
  (if q12.1 = false then
  (f13 M n8 0 11 q12.2).bind fun q17 =>
  (V.asC q17.1).bind fun c18 =>
  (C.asB c18).bind fun b19 =>
  some (!b19, q17.2)
  else
  some (q12.1, q12.2)).bind fun q16 =>
  (if q16.1 = false then
  (if (decide (0 < i)) = true then
  (C.elem 3 g_2 (IntKind.wrap .i64 (i - 1))).bind fun q22 =>
  (Heap.ld q16.2 q22.1 q22.2).bind fun c23 =>
  (C.asI .i64 c23).bind fun n24 =>
  (Heap.ld q16.2 q22.1 (q22.2 + 1)).bind fun c25 =>
  (C.asI .i64 c25).bind fun n26 =>
  (Heap.ld q16.2 q22.1 ((q22.2 + 1) + 1)).bind fun c27 =>
  (C.asI .i64 c27).bind fun n28 =>
  (f50 M n24 n26 n28 q16.2).bind fun q29 =>
  (V.asC q29.1).bind fun c30 =>
  (f50 M n4 n6 n8 q29.2).bind fun q31 =>
  (V.asC q31.1).bind fun c32 =>
  (f49 M c30 c32 q31.2).bind fun q33 =>
  (V.asC q33.1).bind fun c34 =>
  (C.asI .i64 c34).bind fun n35 =>
  some (decide (0 ≤ n35), q33.2)
  else
  some (decide (0 < i), q16.2)).bind fun q21 =>
  some (q21.1, q21.2)
  else
  some (q16.1, q16.2)).bind fun q20 =>
  (if q20.1 = true then
  some ((.c (.bool false)), q20.2)
  else
  f20_2 M g_0 g_1 g_2 (IntKind.wrap .i64 (i + 1)) q20.2)
  else
  some ((.c (.bool true)), H)) := by
  unfold f20_2 mrun; rw [run_eq]; kernel_rfl
-- stutter/stutterref20.SameWalk
theorem f21_eq (M : Mach) (a_0 : Int) (a_1 : C) (a_2 : Bool) (b_0 : Int) (b_1 : C) (b_2 : Bool) (H : Heap) : f21 M a_0 a_1 a_2 b_0 b_1 b_2 H =
  (if (decide (a_0 = b_0)) = true then
  some ((a_2 == b_2) != false, H)
  else
  some (decide (a_0 = b_0), H)).bind fun q1 =>
  (if q1.1 = true then
  (f14 M a_1 b_1 q1.2).bind fun q3 =>
  (V.asC q3.1).bind fun c4 =>
  (C.asB c4).bind fun b5 =>
  some (b5, q3.2)
  else
  some (q1.1, q1.2)).bind fun q2 =>
  some ((.c (.bool q2.1)), q2.2) := by
  unfold f21 mrun; rw [run_eq]; kernel_rfl
-- stutter/stutterref20.Distances
theorem f22_eq (M : Mach) (g_0 : Int) (g_1 : C) (g_2 : C) (H : Heap) : f22 M g_0 g_1 g_2 H =
  f22_1 M g_0 g_1 g_2 .nilSlice 0 H := by
  unfold f22 mrun; rw [run_eq]; kernel_rfl
theorem f22_1_eq (M : Mach) (g_0 : Int) (g_1 : C) (g_2 : C) (out : C) (s : Int) (H : Heap) : f22_1 M g_0 g_1 g_2 out s H =
  (if (decide (s < g_0)) = true then
  (f51 M g_1 s H).bind fun q1 =>
  (V.asC q1.1).bind fun c2 =>
  (C.asB c2).bind fun b3 =>
  (if b3 = true then
  f22_2 M g_0 g_1 g_2 out s 0 q1.2
  else
  f22_2 M g_0 g_1 g_2 out s (-1) q1.2)
  else
  f22_3 M g_0 g_1 g_2 out 0 H) := by
  unfold f22_1 mrun; rw [run_eq]; kernel_rfl
theorem f22_2_eq (M : Mach) (g_0 : Int) (g_1 : C) (g_2 : C) (out : C) (s : Int) (n : Int) (H : Heap) : f22_2 M g_0 g_1 g_2 out s n H =
  let H1 := Heap.alloc H (.cells 1 [(.int .i64 n)])
  (Heap.cellsOf H1 1 (.slice H.next 0 1)).bind fun xs2 =>
  (Heap.app M.lim H1 1 out xs2 1).bind fun q3 =>
  f22_1 M g_0 g_1 g_2 q3.1 (IntKind.wrap .i64 (s + 1)) q3.2 := by
  unfold f22_2 mrun; rw [run_eq]; kernel_rfl
theorem f22_3_eq (M : Mach) (g_0 : Int) (g_1 : C) (g_2 : C) (out : C) (far : Int) (H : Heap) : f22_3 M g_0 g_1 g_2 out far H =
  (if (decide (far < g_0)) = true then
  f22_4 M g_0 g_1 g_2 out far 0 H
  else
  some ((.c out), H)) := by
  unfold f22_3 mrun; rw [run_eq]; kernel_rfl
theorem f22_4_eq (M : Mach) (g_0 : Int) (g_1 : C) (g_2 : C) (out : C) (far : Int) (i : Int) (H : Heap) : f22_4 M g_0 g_1 g_2 out far i H =
  (C.len g_2).bind fun k1 =>
  (if (decide (i < ((k1 : Nat) : Int))) = true then
  (C.elem 3 g_2 i).bind fun q2 =>
  (Heap.ld H q2.1 q2.2).bind fun c3 =>
  (C.asI .i64 c3).bind fun n4 =>
  (Heap.ld H q2.1 (q2.2 + 1)).bind fun c5 =>
  (C.asI .i64 c5).bind fun n6 =>
  (Heap.ld H q2.1 ((q2.2 + 1) + 1)).bind fun c7 =>
  (C.asI .i64 c7).bind fun n8 =>
  (C.elem 1 out n4).bind fun q9 =>
  (Heap.ld H q9.1 q9.2).bind fun c10 =>
  (C.asI .i64 c10).bind fun n11 =>
  (if (decide (n11 = far)) = true then
  (C.elem 1 out n6).bind fun q13 =>
  (Heap.ld H q13.1 q13.2).bind fun c14 =>
  (C.asI .i64 c14).bind fun n15 =>
  some (decide (n15 = (-1)), H)
  else
  some (decide (n11 = far), H)).bind fun q12 =>
  (if q12.1 = true then
  (C.elem 1 out n6).bind fun q16 =>
  (Heap.st M.lim q12.2 q16.1 q16.2 [(.int .i64 (IntKind.wrap .i64 (far + 1)))]).bind fun H17 =>
  f22_5 M g_0 g_1 g_2 out far i H17
  else
  f22_5 M g_0 g_1 g_2 out far i q12.2)
  else
  f22_3 M g_0 g_1 g_2 out (IntKind.wrap .i64 (far + 1)) H) := by
  unfold f22_4 mrun; rw [run_eq]; kernel_rfl
theorem f22_5_eq (M : Mach) (g_0 : Int) (g_1 : C) (g_2 : C) (out : C) (far : Int) (i : Int) (H : Heap) : f22_5 M g_0 g_1 g_2 out far i H =
  f22_4 M g_0 g_1 g_2 out far (IntKind.wrap .i64 (i + 1)) H := by
  unfold f22_5 mrun; rw [run_eq]; kernel_rfl
-- stutter/stutterref20.Least
theorem f23_eq (M : Mach) (g_0 : Int) (g_1 : C) (g_2 : C) (to : Int) (H : Heap) : f23 M g_0 g_1 g_2 to H =
  (if 0 ≤ g_0 ∧ g_0 ≤ 2 ^ 36 then
  let H1 := Heap.alloc H (.cells 1 (List.replicate (Int.toNat g_0) [(.int .i64 0)]).flatten)
  f23_1 M to g_0 g_1 g_2 0 .nilSlice false (.slice H.next 0 (Int.toNat g_0)) 0 H1
  else
  none) := by
  unfold f23 mrun; rw [run_eq]; kernel_rfl
theorem f23_1_eq (M : Mach) (to : Int) (g_0 : Int) (g_1 : C) (g_2 : C) (x4_0 : Int) (x4_1 : C) (x4_2 : Bool) (left : C) (s : Int) (H : Heap) : f23_1 M to g_0 g_1 g_2 x4_0 x4_1 x4_2 left s H =
  (if (decide (s < g_0)) = true then
  (C.elem 1 left s).bind fun q1 =>
  (Heap.st M.lim H q1.1 q1.2 [(.int .i64 (-1))]).bind fun H2 =>
  f23_1 M to g_0 g_1 g_2 x4_0 x4_1 x4_2 left (IntKind.wrap .i64 (s + 1)) H2
  else
  (C.elem 1 left to).bind fun q3 =>
  (Heap.st M.lim H q3.1 q3.2 [(.int .i64 0)]).bind fun H4 =>
  f23_2 M to g_0 g_1 g_2 x4_0 x4_1 x4_2 left 0 H4) := by
  unfold f23_1 mrun; rw [run_eq]; kernel_rfl
theorem f23_2_eq (M : Mach) (to : Int) (g_0 : Int) (g_1 : C) (g_2 : C) (x4_0 : Int) (x4_1 : C) (x4_2 : Bool) (left : C) (far : Int) (H : Heap) : f23_2 M to g_0 g_1 g_2 x4_0 x4_1 x4_2 left far H =
  (if (decide (far < g_0)) = true then
  f23_3 M to g_0 g_1 g_2 x4_0 x4_1 x4_2 left far 0 H
  else
  (f22 M g_0 g_1 g_2 H).bind fun q1 =>
  (V.asC q1.1).bind fun c2 =>
  (C.elem 1 c2 to).bind fun q3 =>
  (Heap.ld q1.2 q3.1 q3.2).bind fun c4 =>
  (C.asI .i64 c4).bind fun n5 =>
  f23_5 M to g_0 g_1 g_2 x4_0 x4_1 x4_2 left n5 0 .nilSlice false 0 q1.2) := by
  unfold f23_2 mrun; rw [run_eq]; kernel_rfl
theorem f23_3_eq (M : Mach) (to : Int) (g_0 : Int) (g_1 : C) (g_2 : C) (x4_0 : Int) (x4_1 : C) (x4_2 : Bool) (left : C) (far : Int) (i : Int) (H : Heap) : f23_3 M to g_0 g_1 g_2 x4_0 x4_1 x4_2 left far i H =
  (C.len g_2).bind fun k1 =>
  (if (decide (i < ((k1 : Nat) : Int))) = true then
  (C.elem 3 g_2 i).bind fun q2 =>
  (Heap.ld H q2.1 q2.2).bind fun c3 =>
  (C.asI .i64 c3).bind fun n4 =>
  (Heap.ld H q2.1 (q2.2 + 1)).bind fun c5 =>
  (C.asI .i64 c5).bind fun n6 =>
  (Heap.ld H q2.1 ((q2.2 + 1) + 1)).bind fun c7 =>
  (C.asI .i64 c7).bind fun n8 =>
  (C.elem 1 left n6).bind fun q9 =>
  (Heap.ld H q9.1 q9.2).bind fun c10 =>
  (C.asI .i64 c10).bind fun n11 =>
  (if (decide (n11 = far)) = true then
  (C.elem 1 left n4).bind fun q13 =>
  (Heap.ld H q13.1 q13.2).bind fun c14 =>
  (C.asI .i64 c14).bind fun n15 =>
  some (decide (n15 = (-1)), H)
  else
  some (decide (n11 = far), H)).bind fun q12 =>
  (if q12.1 = true then
  (C.elem 1 left n4).bind fun q16 =>
  (Heap.st M.lim q12.2 q16.1 q16.2 [(.int .i64 (IntKind.wrap .i64 (far + 1)))]).bind fun H17 =>
  f23_4 M to g_0 g_1 g_2 x4_0 x4_1 x4_2 left far i H17
  else
  f23_4 M to g_0 g_1 g_2 x4_0 x4_1 x4_2 left far i q12.2)
  else
  f23_2 M to g_0 g_1 g_2 x4_0 x4_1 x4_2 left (IntKind.wrap .i64 (far + 1)) H) := by
  unfold f23_3 mrun; rw [run_eq]; kernel_rfl
theorem f23_5_eq (M : Mach) (to : Int) (g_0 : Int) (g_1 : C) (g_2 : C) (x4_0 : Int) (x4_1 : C) (x4_2 : Bool) (left : C) (best : Int) (out_0 : Int) (out_1 : C) (out_2 : Bool) (i : Int) (H : Heap) : f23_5 M to g_0 g_1 g_2 x4_0 x4_1 x4_2 left best out_0 out_1 out_2 i H =
  (C.len g_1).bind fun k1 =>
  (if (decide (i < ((k1 : Nat) : Int))) = true then
  (C.elem 1 g_1 i).bind fun q2 =>
  (Heap.ld H q2.1 q2.2).bind fun c3 =>
  (C.asI .i64 c3).bind fun n4 =>
  (C.elem 1 left n4).bind fun q5 =>
  (Heap.ld H q5.1 q5.2).bind fun c6 =>
  (C.asI .i64 c6).bind fun n7 =>
  (if (decide (n7 = best)) = true then
  (C.elem 1 g_1 i).bind fun q8 =>
  (Heap.ld H q8.1 q8.2).bind fun c9 =>
  (C.asI .i64 c9).bind fun n10 =>
  f23_6 M to g_0 g_1 g_2 x4_0 x4_1 x4_2 left n10 out_1 out_2 n10 H
  else
  f23_5 M to g_0 g_1 g_2 x4_0 x4_1 x4_2 left best out_0 out_1 out_2 (IntKind.wrap .i64 (i + 1)) H)
  else
  f23_6 M to g_0 g_1 g_2 x4_0 x4_1 x4_2 left out_0 out_1 out_2 out_0 H) := by
  unfold f23_5 mrun; rw [run_eq]; kernel_rfl
theorem f23_4_eq (M : Mach) (to : Int) (g_0 : Int) (g_1 : C) (g_2 : C) (x4_0 : Int) (x4_1 : C) (x4_2 : Bool) (left : C) (far : Int) (i : Int) (H : Heap) : f23_4 M to g_0 g_1 g_2 x4_0 x4_1 x4_2 left far i H =
  f23_3 M to g_0 g_1 g_2 x4_0 x4_1 x4_2 left far (IntKind.wrap .i64 (i + 1)) H := by
  unfold f23_4 mrun; rw [run_eq]; kernel_rfl
theorem f23_6_eq (M : Mach) (to : Int) (g_0 : Int) (g_1 : C) (g_2 : C) (x4_0 : Int) (x4_1 : C) (x4_2 : Bool) (left : C) (out_0 : Int) (out_1 : C) (out_2 : Bool) (s : Int) (H : Heap) : f23_6 M to g_0 g_1 g_2 x4_0 x4_1 x4_2 left out_0 out_1 out_2 s H =
  (if (!decide (s = to)) = true then
  f23_7 M to g_0 g_1 g_2 x4_0 x4_1 x4_2 left out_0 out_1 out_2 s 0 H
  else
  some ((.agg [(.int .i64 out_0), out_1, (.bool out_2)]), H)) := by
  unfold f23_6 mrun; rw [run_eq]; kernel_rfl
theorem f23_7_eq (M : Mach) (to : Int) (g_0 : Int) (g_1 : C) (g_2 : C) (x4_0 : Int) (x4_1 : C) (x4_2 : Bool) (left : C) (out_0 : Int) (out_1 : C) (out_2 : Bool) (s : Int) (i : Int) (H : Heap) : f23_7 M to g_0 g_1 g_2 x4_0 x4_1 x4_2 left out_0 out_1 out_2 s i H =
  (C.len g_2).bind fun k1 =>
  (if (decide (i < ((k1 : Nat) : Int))) = true then
  (C.elem 3 g_2 i).bind fun q2 =>
  (Heap.ld H q2.1 q2.2).bind fun c3 =>
  (C.asI .i64 c3).bind fun n4 =>
  (if (decide (n4 = s)) = true then
  (C.elem 3 g_2 i).bind fun q6 =>
  (Heap.ld H q6.1 (q6.2 + 1)).bind fun c7 =>
  (C.asI .i64 c7).bind fun n8 =>
  (C.elem 1 left n8).bind fun q9 =>
  (Heap.ld H q9.1 q9.2).bind fun c10 =>
  (C.asI .i64 c10).bind fun n11 =>
  (C.elem 1 left s).bind fun q12 =>
  (Heap.ld H q12.1 q12.2).bind fun c13 =>
  (C.asI .i64 c13).bind fun n14 =>
  some (decide (n11 = (IntKind.wrap .i64 (n14 - 1))), H)
  else
  some (decide (n4 = s), H)).bind fun q5 =>
  (if q5.1 = true then
  let H15 := Heap.alloc q5.2 (.cells 1 [(.int .i64 i)])
  (Heap.cellsOf H15 1 (.slice q5.2.next 0 1)).bind fun xs16 =>
  (Heap.app M.lim H15 1 out_1 xs16 1).bind fun q17 =>
  (C.elem 3 g_2 i).bind fun q18 =>
  (Heap.ld q17.2 q18.1 (q18.2 + 1)).bind fun c19 =>
  (C.asI .i64 c19).bind fun n20 =>
  f23_6 M to g_0 g_1 g_2 x4_0 x4_1 x4_2 left out_0 q17.1 out_2 n20 q17.2
  else
  f23_7 M to g_0 g_1 g_2 x4_0 x4_1 x4_2 left out_0 out_1 out_2 s (IntKind.wrap .i64 (i + 1)) q5.2)
  else
  f23_6 M to g_0 g_1 g_2 x4_0 x4_1 x4_2 left out_0 out_1 out_2 s H) := by
  unfold f23_7 mrun; rw [run_eq]; kernel_rfl
-- stutter/stutterref20.WeightsErr
theorem f24_eq (M : Mach) (w : C) (H : Heap) : f24 M w H =
  (C.len w).bind fun k1 =>
  (if (!decide (((k1 : Nat) : Int) = 12)) = true then
  some ((.c (.int .i64 6)), H)
  else
  f24_1 M w 0 H) := by
  unfold f24 mrun; rw [run_eq]; kernel_rfl
theorem f24_1_eq (M : Mach) (w : C) (i : Int) (H : Heap) : f24_1 M w i H =
  (C.len w).bind fun k1 =>
  (if (decide (i < ((k1 : Nat) : Int))) = true then
  (C.elem 1 w i).bind fun q2 =>
  (Heap.ld H q2.1 q2.2).bind fun c3 =>
  (C.asI .i64 c3).bind fun n4 =>
  (f13 M n4 0 100 H).bind fun q5 =>
  (V.asC q5.1).bind fun c6 =>
  (C.asB c6).bind fun b7 =>
  (if (!b7) = true then
  some ((.c (.int .i64 3)), q5.2)
  else
  f24_1 M w (IntKind.wrap .i64 (i + 1)) q5.2)
  else
  some ((.c (.int .i64 0)), H)) := by
  unfold f24_1 mrun; rw [run_eq]; kernel_rfl
-- stutter/simulate.WalkOf
theorem f25_eq (M : Mach) (g_0 : Int) (g_1 : C) (g_2 : C) (w : C) (x_0 : Int) (x_1 : Int) (H : Heap) : f25 M g_0 g_1 g_2 w x_0 x_1 H =
  (f46 M g_0 g_1 g_2 H).bind fun q1 =>
  (V.asC q1.1).bind fun c2 =>
  (C.asI .i64 c2).bind fun n3 =>
  (f52 M w q1.2).bind fun q4 =>
  (V.asC q4.1).bind fun c5 =>
  (C.asI .i64 c5).bind fun n6 =>
  (f42 M x_0 q4.2).bind fun q7 =>
  (V.asC q7.1).bind fun c8 =>
  (C.asI .i64 c8).bind fun n9 =>
  (f44 M x_1 0 300 q7.2).bind fun q10 =>
  (V.asC q10.1).bind fun c11 =>
  (C.asB c11).bind fun b12 =>
  (f43 M b12 2 q10.2).bind fun q13 =>
  (V.asC q13.1).bind fun c14 =>
  (C.asI .i64 c14).bind fun n15 =>
  (C.len g_1).bind fun k16 =>
  (f43 M (decide (0 < ((k16 : Nat) : Int))) 1 q13.2).bind fun q17 =>
  (V.asC q17.1).bind fun c18 =>
  (C.asI .i64 c18).bind fun n19 =>
  let H20 := Heap.alloc q17.2 (.cells 1 [(.int .i64 n3), (.int .i64 n6), (.int .i64 n9), (.int .i64 n15), (.int .i64 n19)])
  (f41 M (.slice q17.2.next 0 5) H20).bind fun q21 =>
  (V.asC q21.1).bind fun c22 =>
  (C.asI .i64 c22).bind fun n23 =>
  (if (!decide (n23 = 0)) = true then
  some ((.tuple [(.agg [(.int .i64 0), .nilSlice, (.bool false)]), (.c (.int .i64 n23))]), q21.2)
  else
  (f53 M g_0 g_1 g_2 q21.2).bind fun q24 =>
  (V.asC q24.1).bind fun c25 =>
  let H26 := Heap.alloc q24.2 (.cells 1 [(.int .i64 x_0)])
  (f45 M (.ptr q24.2.next 0) H26).bind fun q27 =>
  (V.asC q27.1).bind fun c28 =>
  (C.asI .i64 c28).bind fun n29 =>
  (C.len g_1).bind fun k30 =>
  (if ((k30 : Nat) : Int) = 0 then
  none
  else
  (C.elem 1 g_1 (Int.tmod n29 ((k30 : Nat) : Int))).bind fun q31 =>
  (Heap.ld q27.2 q31.1 q31.2).bind fun c32 =>
  (C.asI .i64 c32).bind fun n33 =>
  f25_1 M w g_0 g_1 g_2 x_0 x_1 0 .nilSlice false (.ptr q24.2.next 0) c25 n33 n33 .nilSlice false q27.2)) := by
  unfold f25 mrun; rw [run_eq]; kernel_rfl
theorem f25_1_eq (M : Mach) (w : C) (g_0 : Int) (g_1 : C) (g_2 : C) (x_0 : Int) (x_1 : Int) (x6_0 : Int) (x6_1 : C) (x6_2 : Bool) (n : C) (out : C) (vat : Int) (walk_0 : Int) (walk_1 : C) (walk_2 : Bool) (H : Heap) : f25_1 M w g_0 g_1 g_2 x_0 x_1 x6_0 x6_1 x6_2 n out vat walk_0 walk_1 walk_2 H =
  (C.elem 1 out vat).bind fun q1 =>
  (Heap.ld H q1.1 q1.2).bind fun c2 =>
  (C.len c2).bind fun k3 =>
  f25_2 M w g_0 g_1 g_2 x_0 x_1 x6_0 x6_1 x6_2 n out vat walk_0 walk_1 walk_2 0 c2 ((k3 : Nat) : Int) 0 H := by
  unfold f25_1 mrun; rw [run_eq]; kernel_rfl
theorem f25_2_eq (M : Mach) (w : C) (g_0 : Int) (g_1 : C) (g_2 : C) (x_0 : Int) (x_1 : Int) (x6_0 : Int) (x6_1 : C) (x6_2 : Bool) (n : C) (out : C) (vat : Int) (walk_0 : Int) (walk_1 : C) (walk_2 : Bool) (sum : Int) (x62 : C) (x63 : Int) (x64 : Int) (H : Heap) : f25_2 M w g_0 g_1 g_2 x_0 x_1 x6_0 x6_1 x6_2 n out vat walk_0 walk_1 walk_2 sum x62 x63 x64 H =
  (if (decide (x64 < x63)) = true then
  (C.elem 1 x62 x64).bind fun q1 =>
  (Heap.ld H q1.1 q1.2).bind fun c2 =>
  (C.asI .i64 c2).bind fun n3 =>
  (C.elem 3 g_2 n3).bind fun q4 =>
  (Heap.ld H q4.1 (q4.2 + 2)).bind fun c5 =>
  (C.asI .i64 c5).bind fun n6 =>
  (C.elem 1 w n6).bind fun q7 =>
  (Heap.ld H q7.1 q7.2).bind fun c8 =>
  (C.asI .i64 c8).bind fun n9 =>
  f25_2 M w g_0 g_1 g_2 x_0 x_1 x6_0 x6_1 x6_2 n out vat walk_0 walk_1 walk_2 (IntKind.wrap .i64 (sum + n9)) x62 x63 (IntKind.wrap .i64 (x64 + 1)) H
  else
  (if (decide (sum = 0)) = false then
  (C.len walk_1).bind fun k11 =>
  some (decide (((k11 : Nat) : Int) = x_1), H)
  else
  some (decide (sum = 0), H)).bind fun q10 =>
  (if q10.1 = true then
  some ((.tuple [(.agg [(.int .i64 walk_0), walk_1, (.bool (decide (sum = 0)))]), (.c (.int .i64 0))]), q10.2)
  else
  (f45 M n q10.2).bind fun q12 =>
  (V.asC q12.1).bind fun c13 =>
  (C.asI .i64 c13).bind fun n14 =>
  (if sum = 0 then
  none
  else
  (C.elem 1 out vat).bind fun q15 =>
  (Heap.ld q12.2 q15.1 q15.2).bind fun c16 =>
  (C.len c16).bind fun k17 =>
  f25_3 M w g_0 g_1 g_2 x_0 x_1 x6_0 x6_1 x6_2 n out vat walk_0 walk_1 (decide (sum = 0)) (Int.tmod n14 sum) c16 ((k17 : Nat) : Int) 0 q12.2))) := by
  unfold f25_2 mrun; rw [run_eq]; kernel_rfl
theorem f25_3_eq (M : Mach) (w : C) (g_0 : Int) (g_1 : C) (g_2 : C) (x_0 : Int) (x_1 : Int) (x6_0 : Int) (x6_1 : C) (x6_2 : Bool) (n : C) (out : C) (vat : Int) (walk_0 : Int) (walk_1 : C) (walk_2 : Bool) (left : Int) (x101 : C) (x102 : Int) (x103 : Int) (H : Heap) : f25_3 M w g_0 g_1 g_2 x_0 x_1 x6_0 x6_1 x6_2 n out vat walk_0 walk_1 walk_2 left x101 x102 x103 H =
  (if (decide (x103 < x102)) = true then
  (C.elem 1 x101 x103).bind fun q1 =>
  (Heap.ld H q1.1 q1.2).bind fun c2 =>
  (C.asI .i64 c2).bind fun n3 =>
  (C.elem 3 g_2 n3).bind fun q4 =>
  (Heap.ld H q4.1 (q4.2 + 2)).bind fun c5 =>
  (C.asI .i64 c5).bind fun n6 =>
  (C.elem 1 w n6).bind fun q7 =>
  (Heap.ld H q7.1 q7.2).bind fun c8 =>
  (C.asI .i64 c8).bind fun n9 =>
  (if (decide ((IntKind.wrap .i64 (left - n9)) < 0)) = true then
  let H10 := Heap.alloc H (.cells 1 [(.int .i64 n3)])
  (Heap.cellsOf H10 1 (.slice H.next 0 1)).bind fun xs11 =>
  (Heap.app M.lim H10 1 walk_1 xs11 1).bind fun q12 =>
  (C.elem 3 g_2 n3).bind fun q13 =>
  (Heap.ld q12.2 q13.1 (q13.2 + 1)).bind fun c14 =>
  (C.asI .i64 c14).bind fun n15 =>
  f25_1 M w g_0 g_1 g_2 x_0 x_1 x6_0 x6_1 x6_2 n out n15 walk_0 q12.1 walk_2 q12.2
  else
  f25_3 M w g_0 g_1 g_2 x_0 x_1 x6_0 x6_1 x6_2 n out vat walk_0 walk_1 walk_2 (IntKind.wrap .i64 (left - n9)) x101 x102 (IntKind.wrap .i64 (x103 + 1)) H)
  else
  f25_1 M w g_0 g_1 g_2 x_0 x_1 x6_0 x6_1 x6_2 n out vat walk_0 walk_1 walk_2 H) := by
  unfold f25_3 mrun; rw [run_eq]; kernel_rfl
-- stutter/stutterbase.OwnInts
theorem f26_eq (M : Mach) (l : C) (H : Heap) : f26 M l H =
  let H1 := Heap.alloc H (.cells 1 [])
  (Heap.cellsOf H1 1 l).bind fun xs2 =>
  (C.len l).bind fun k3 =>
  (Heap.app M.lim H1 1 (.slice H.next 0 0) xs2 k3).bind fun q4 =>
  some ((.c q4.1), q4.2) := by
  unfold f26 mrun; rw [run_eq]; kernel_rfl
-- stutter/stutterref20.Walk
theorem f27_eq (M : Mach) (g_0 : Int) (g_1 : C) (g_2 : C) (w : C) (x_0 : Int) (x_1 : Int) (H : Heap) : f27 M g_0 g_1 g_2 w x_0 x_1 H =
  (f15 M x_0 (IntKind.wrap .i64 (x_1 + 1)) H).bind fun q1 =>
  (V.asC q1.1).bind fun c2 =>
  (C.elem 1 c2 0).bind fun q3 =>
  (Heap.ld q1.2 q3.1 q3.2).bind fun c4 =>
  (C.asI .i64 c4).bind fun n5 =>
  (C.len g_1).bind fun k6 =>
  (if ((k6 : Nat) : Int) = 0 then
  none
  else
  (C.elem 1 g_1 (Int.tmod n5 ((k6 : Nat) : Int))).bind fun q7 =>
  (Heap.ld q1.2 q7.1 q7.2).bind fun c8 =>
  (C.asI .i64 c8).bind fun n9 =>
  f27_1 M w g_0 g_1 g_2 x_0 x_1 0 .nilSlice false c2 n9 .nilSlice false n9 q1.2) := by
  unfold f27 mrun; rw [run_eq]; kernel_rfl
theorem f27_1_eq (M : Mach) (w : C) (g_0 : Int) (g_1 : C) (g_2 : C) (x_0 : Int) (x_1 : Int) (x6_0 : Int) (x6_1 : C) (x6_2 : Bool) (l : C) (out_0 : Int) (out_1 : C) (out_2 : Bool) (s : Int) (H : Heap) : f27_1 M w g_0 g_1 g_2 x_0 x_1 x6_0 x6_1 x6_2 l out_0 out_1 out_2 s H =
  (C.len out_1).bind fun k1 =>
  (if (decide (((k1 : Nat) : Int) < x_1)) = true then
  (f54 M g_0 g_1 g_2 w s H).bind fun q2 =>
  (V.ext q2.1 0).bind fun v3 =>
  (V.asC v3).bind fun c4 =>
  (V.ext q2.1 1).bind fun v5 =>
  (V.asC v5).bind fun c6 =>
  (C.asI .i64 c6).bind fun n7 =>
  (C.len c4).bind fun k8 =>
  (if (decide (((k8 : Nat) : Int) = 0)) = true then
  (f54 M g_0 g_1 g_2 w s q2.2).bind fun q9 =>
  (V.ext q9.1 0).bind fun v10 =>
  (V.asC v10).bind fun c11 =>
  (V.ext q9.1 1).bind fun v12 =>
  (V.asC v12).bind fun c13 =>
  (C.asI .i64 c13).bind fun n14 =>
  (C.len c11).bind fun k15 =>
  some ((.agg [(.int .i64 out_0), out_1, (.bool (decide (((k15 : Nat) : Int) = 0)))]), q9.2)
  else
  (C.len out_1).bind fun k16 =>
  (C.elem 1 l (IntKind.wrap .i64 (((k16 : Nat) : Int) + 1))).bind fun q17 =>
  (Heap.ld q2.2 q17.1 q17.2).bind fun c18 =>
  (C.asI .i64 c18).bind fun n19 =>
  (if n7 = 0 then
  none
  else
  f27_2 M w g_0 g_1 g_2 x_0 x_1 x6_0 x6_1 x6_2 l out_0 out_1 out_2 c4 (Int.tmod n19 n7) 0 q2.2))
  else
  (f54 M g_0 g_1 g_2 w s H).bind fun q20 =>
  (V.ext q20.1 0).bind fun v21 =>
  (V.asC v21).bind fun c22 =>
  (V.ext q20.1 1).bind fun v23 =>
  (V.asC v23).bind fun c24 =>
  (C.asI .i64 c24).bind fun n25 =>
  (C.len c22).bind fun k26 =>
  some ((.agg [(.int .i64 out_0), out_1, (.bool (decide (((k26 : Nat) : Int) = 0)))]), q20.2)) := by
  unfold f27_1 mrun; rw [run_eq]; kernel_rfl
theorem f27_2_eq (M : Mach) (w : C) (g_0 : Int) (g_1 : C) (g_2 : C) (x_0 : Int) (x_1 : Int) (x6_0 : Int) (x6_1 : C) (x6_2 : Bool) (l : C) (out_0 : Int) (out_1 : C) (out_2 : Bool) (p : C) (n : Int) (k : Int) (H : Heap) : f27_2 M w g_0 g_1 g_2 x_0 x_1 x6_0 x6_1 x6_2 l out_0 out_1 out_2 p n k H =
  (C.elem 1 p k).bind fun q1 =>
  (Heap.ld H q1.1 q1.2).bind fun c2 =>
  (C.asI .i64 c2).bind fun n3 =>
  (C.elem 3 g_2 n3).bind fun q4 =>
  (Heap.ld H q4.1 (q4.2 + 2)).bind fun c5 =>
  (C.asI .i64 c5).bind fun n6 =>
  (C.elem 1 w n6).bind fun q7 =>
  (Heap.ld H q7.1 q7.2).bind fun c8 =>
  (C.asI .i64 c8).bind fun n9 =>
  (if (decide (n9 ≤ n)) = true then
  (C.elem 1 p k).bind fun q10 =>
  (Heap.ld H q10.1 q10.2).bind fun c11 =>
  (C.asI .i64 c11).bind fun n12 =>
  (C.elem 3 g_2 n12).bind fun q13 =>
  (Heap.ld H q13.1 (q13.2 + 2)).bind fun c14 =>
  (C.asI .i64 c14).bind fun n15 =>
  (C.elem 1 w n15).bind fun q16 =>
  (Heap.ld H q16.1 q16.2).bind fun c17 =>
  (C.asI .i64 c17).bind fun n18 =>
  f27_2 M w g_0 g_1 g_2 x_0 x_1 x6_0 x6_1 x6_2 l out_0 out_1 out_2 p (IntKind.wrap .i64 (n - n18)) (IntKind.wrap .i64 (k + 1)) H
  else
  (C.elem 1 p k).bind fun q19 =>
  (Heap.ld H q19.1 q19.2).bind fun c20 =>
  (C.asI .i64 c20).bind fun n21 =>
  let H22 := Heap.alloc H (.cells 1 [(.int .i64 n21)])
  (Heap.cellsOf H22 1 (.slice H.next 0 1)).bind fun xs23 =>
  (Heap.app M.lim H22 1 out_1 xs23 1).bind fun q24 =>
  (C.elem 1 p k).bind fun q25 =>
  (Heap.ld q24.2 q25.1 q25.2).bind fun c26 =>
  (C.asI .i64 c26).bind fun n27 =>
  (C.elem 3 g_2 n27).bind fun q28 =>
  (Heap.ld q24.2 q28.1 (q28.2 + 1)).bind fun c29 =>
  (C.asI .i64 c29).bind fun n30 =>
  f27_1 M w g_0 g_1 g_2 x_0 x_1 x6_0 x6_1 x6_2 l out_0 q24.1 out_2 n30 q24.2) := by
  unfold f27_2 mrun; rw [run_eq]; kernel_rfl
-- stutter/simulate.CheckWalk
theorem f28_eq (M : Mach) (g_0 : Int) (g_1 : C) (g_2 : C) (x_0 : Int) (x_1 : C) (x_2 : Bool) (H : Heap) : f28 M g_0 g_1 g_2 x_0 x_1 x_2 H =
  (f46 M g_0 g_1 g_2 H).bind fun q1 =>
  (V.asC q1.1).bind fun c2 =>
  (C.asI .i64 c2).bind fun n3 =>
  (if (!decide (n3 = 0)) = true then
  some ((.tuple [(.c (.int .i64 0)), (.c (.int .i64 n3))]), q1.2)
  else
  (f55 M g_0 g_1 g_2 x_0 x_1 x_2 q1.2).bind fun q4 =>
  (V.ext q4.1 0).bind fun v5 =>
  (V.asC v5).bind fun c6 =>
  (C.asI .i64 c6).bind fun n7 =>
  (V.ext q4.1 1).bind fun v8 =>
  (V.asC v8).bind fun c9 =>
  (C.asI .i64 c9).bind fun n10 =>
  some ((.tuple [(.c (.int .i64 n7)), (.c (.int .i64 n10))]), q4.2)) := by
  unfold f28 mrun; rw [run_eq]; kernel_rfl
-- stutter/stutterref20.OwnWalk
theorem f29_eq (M : Mach) (x_0 : Int) (x_1 : C) (x_2 : Bool) (H : Heap) : f29 M x_0 x_1 x_2 H =
  (f26 M x_1 H).bind fun q1 =>
  (V.asC q1.1).bind fun c2 =>
  some ((.agg [(.int .i64 x_0), c2, (.bool x_2)]), q1.2) := by
  unfold f29 mrun; rw [run_eq]; kernel_rfl
-- stutter/stutterlaw20.short
theorem f30_eq (M : Mach) (l : C) (H : Heap) : f30 M l H =
  (C.len l).bind fun k1 =>
  (if (decide (20 < ((k1 : Nat) : Int))) = true then
  (C.len l).bind fun k3 =>
  some (decide (((k3 : Nat) : Int) ≤ 60), H)
  else
  some (decide (20 < ((k1 : Nat) : Int)), H)).bind fun q2 =>
  (if q2.1 = false then
  (C.len l).bind fun k5 =>
  some (decide (62 < ((k5 : Nat) : Int)), q2.2)
  else
  some (q2.1, q2.2)).bind fun q4 =>
  (if q4.1 = true then
  some ((.c (.bool false)), q4.2)
  else
  f30_1 M l 0 q4.2) := by
  unfold f30 mrun; rw [run_eq]; kernel_rfl
theorem f30_1_eq (M : Mach) (l : C) (i : Int) (H : Heap) : f30_1 M l i H =
  (C.len l).bind fun k1 =>
  (if (decide (i < ((k1 : Nat) : Int))) = true then
  (C.elem 3 l i).bind fun q2 =>
  (Heap.ld H q2.1 (q2.2 + 1)).bind fun c3 =>
  (C.len c3).bind fun k4 =>
  (if (decide (60 < ((k4 : Nat) : Int))) = true then
  some (decide (((k4 : Nat) : Int) ≤ 300), H)
  else
  some (decide (60 < ((k4 : Nat) : Int)), H)).bind fun q5 =>
  (if q5.1 = false then
  some (decide (302 < ((k4 : Nat) : Int)), q5.2)
  else
  some (q5.1, q5.2)).bind fun q6 =>
  (if q6.1 = true then
  some ((.c (.bool false)), q6.2)
  else
  f30_1 M l (IntKind.wrap .i64 (i + 1)) q6.2)
  else
  some ((.c (.bool true)), H)) := by
  unfold f30_1 mrun; rw [run_eq]; kernel_rfl
-- stutter/stutterref20.Check
theorem f31_eq (M : Mach) (g_0 : Int) (g_1 : C) (g_2 : C) (x_0 : Int) (x_1 : C) (x_2 : Bool) (H : Heap) : f31 M g_0 g_1 g_2 x_0 x_1 x_2 H =
  (f20 M g_0 g_1 g_2 H).bind fun q1 =>
  (V.asC q1.1).bind fun c2 =>
  (C.asB c2).bind fun b3 =>
  (if (!b3) = true then
  some ((.tuple [(.c (.int .i64 0)), (.c (.int .i64 5))]), q1.2)
  else
  (C.len x_1).bind fun k4 =>
  (if (decide (300 < ((k4 : Nat) : Int))) = true then
  some ((.tuple [(.c (.int .i64 0)), (.c (.int .i64 2))]), q1.2)
  else
  (f51 M g_1 x_0 q1.2).bind fun q5 =>
  (V.asC q5.1).bind fun c6 =>
  (C.asB c6).bind fun b7 =>
  (if (!b7) = true then
  some ((.tuple [(.c (.int .i64 0)), (.c (.int .i64 10))]), q5.2)
  else
  f31_1 M g_0 g_1 g_2 x_0 x_1 x_2 x_0 0 q5.2))) := by
  unfold f31 mrun; rw [run_eq]; kernel_rfl
theorem f31_1_eq (M : Mach) (g_0 : Int) (g_1 : C) (g_2 : C) (x_0 : Int) (x_1 : C) (x_2 : Bool) (s : Int) (i : Int) (H : Heap) : f31_1 M g_0 g_1 g_2 x_0 x_1 x_2 s i H =
  (C.len x_1).bind fun k1 =>
  (if (decide (i < ((k1 : Nat) : Int))) = true then
  (C.elem 1 x_1 i).bind fun q2 =>
  (Heap.ld H q2.1 q2.2).bind fun c3 =>
  (C.asI .i64 c3).bind fun n4 =>
  (C.len g_2).bind fun k5 =>
  (f13 M n4 0 (IntKind.wrap .i64 (((k5 : Nat) : Int) - 1)) H).bind fun q6 =>
  (V.asC q6.1).bind fun c7 =>
  (C.asB c7).bind fun b8 =>
  (if (!b8) = true then
  some ((.tuple [(.c (.int .i64 0)), (.c (.int .i64 3))]), q6.2)
  else
  (C.elem 1 x_1 i).bind fun q9 =>
  (Heap.ld q6.2 q9.1 q9.2).bind fun c10 =>
  (C.asI .i64 c10).bind fun n11 =>
  (C.elem 3 g_2 n11).bind fun q12 =>
  (Heap.ld q6.2 q12.1 q12.2).bind fun c13 =>
  (C.asI .i64 c13).bind fun n14 =>
  (if (!decide (n14 = s)) = true then
  some ((.tuple [(.c (.int .i64 0)), (.c (.int .i64 14))]), q6.2)
  else
  (C.elem 1 x_1 i).bind fun q15 =>
  (Heap.ld q6.2 q15.1 q15.2).bind fun c16 =>
  (C.asI .i64 c16).bind fun n17 =>
  (C.elem 3 g_2 n17).bind fun q18 =>
  (Heap.ld q6.2 q18.1 (q18.2 + 1)).bind fun c19 =>
  (C.asI .i64 c19).bind fun n20 =>
  f31_1 M g_0 g_1 g_2 x_0 x_1 x_2 n20 (IntKind.wrap .i64 (i + 1)) q6.2))
  else
  some ((.tuple [(.c (.int .i64 s)), (.c (.int .i64 0))]), H)) := by
  unfold f31_1 mrun; rw [run_eq]; kernel_rfl
-- stutter/simulate.TourOf
theorem f32_eq (M : Mach) (g_0 : Int) (g_1 : C) (g_2 : C) (most : Int) (H : Heap) : f32 M g_0 g_1 g_2 most H =
  (f46 M g_0 g_1 g_2 H).bind fun q1 =>
  (V.asC q1.1).bind fun c2 =>
  (C.asI .i64 c2).bind fun n3 =>
  (f44 M most 1 300 q1.2).bind fun q4 =>
  (V.asC q4.1).bind fun c5 =>
  (C.asB c5).bind fun b6 =>
  (f43 M b6 3 q4.2).bind fun q7 =>
  (V.asC q7.1).bind fun c8 =>
  (C.asI .i64 c8).bind fun n9 =>
  let H10 := Heap.alloc q7.2 (.cells 1 [(.int .i64 n3), (.int .i64 n9)])
  (f41 M (.slice q7.2.next 0 2) H10).bind fun q11 =>
  (V.asC q11.1).bind fun c12 =>
  (C.asI .i64 c12).bind fun n13 =>
  (if (!decide (n13 = 0)) = true then
  some ((.tuple [(.c .nilSlice), (.c (.int .i64 n13))]), q11.2)
  else
  (f47 M g_0 g_1 g_2 g_1 q11.2).bind fun q14 =>
  (V.asA q14.1).bind fun c15 =>
  (headC c15).bind fun c16 =>
  (C.asI .i64 c16).bind fun n17 =>
  (headC (c15.drop 1)).bind fun c18 =>
  (headC ((c15.drop 1).drop 1)).bind fun c19 =>
  (headC (((c15.drop 1).drop 1).drop 1)).bind fun c20 =>
  (headC ((((c15.drop 1).drop 1).drop 1).drop 1)).bind fun c21 =>
  (if ((((((c15.drop 1).drop 1).drop 1).drop 1).drop 1)).length = 0 then
  (f56 M g_0 g_1 g_2 q14.2).bind fun q22 =>
  (V.asC q22.1).bind fun c23 =>
  let H24 := Heap.alloc q22.2 (.map [])
  let H25 := Heap.alloc H24 (.cells 5 [(.int .i64 g_0), g_1, g_2, (.map q22.2.next), (.int .i64 most)])
  (C.len c23).bind fun k26 =>
  f32_1 M most g_0 g_1 g_2 n17 c18 c19 c20 c21 c23 (.ptr H24.next 0) c23 ((k26 : Nat) : Int) 0 H25
  else
  none)) := by
  unfold f32 mrun; rw [run_eq]; kernel_rfl
theorem f32_1_eq (M : Mach) (most : Int) (g_0 : Int) (g_1 : C) (g_2 : C) (x_0 : Int) (x_1 : C) (x_2 : C) (x_3 : C) (x_4 : C) (all : C) (t : C) (x41 : C) (x42 : Int) (x43 : Int) (H : Heap) : f32_1 M most g_0 g_1 g_2 x_0 x_1 x_2 x_3 x_4 all t x41 x42 x43 H =
  (if (decide (x43 < x42)) = true then
  (C.elem 1 x41 x43).bind fun q1 =>
  (Heap.ld H q1.1 q1.2).bind fun c2 =>
  (C.asI .i64 c2).bind fun n3 =>
  (C.elem 3 g_2 n3).bind fun q4 =>
  (Heap.ld H q4.1 q4.2).bind fun c5 =>
  (C.asI .i64 c5).bind fun n6 =>
  (C.elem 1 x_3 n6).bind fun q7 =>
  (Heap.ld H q7.1 q7.2).bind fun c8 =>
  (C.asI .i64 c8).bind fun n9 =>
  (if (decide (most ≤ n9)) = true then
  some ((.tuple [(.c .nilSlice), (.c (.int .i64 25))]), H)
  else
  (withP t fun i10 o11 =>
  (Heap.ld H i10 (o11 + 3)).bind fun c12 =>
  (Heap.mset M.lim H .int c12 (.int .i64 n3) (.c (.bool true))).bind fun H13 =>
  f32_1 M most g_0 g_1 g_2 x_0 x_1 x_2 x_3 x_4 all t x41 x42 (IntKind.wrap .i64 (x43 + 1)) H13))
  else
  (C.len all).bind fun k14 =>
  f32_2 M g_0 g_1 g_2 x_0 x_1 x_2 x_3 x_4 t .nilSlice all ((k14 : Nat) : Int) 0 H) := by
  unfold f32_1 mrun; rw [run_eq]; kernel_rfl
theorem f32_2_eq (M : Mach) (g_0 : Int) (g_1 : C) (g_2 : C) (x_0 : Int) (x_1 : C) (x_2 : C) (x_3 : C) (x_4 : C) (t : C) (out : C) (x65 : C) (x66 : Int) (x67 : Int) (H : Heap) : f32_2 M g_0 g_1 g_2 x_0 x_1 x_2 x_3 x_4 t out x65 x66 x67 H =
  (if (decide (x67 < x66)) = true then
  (C.elem 1 x65 x67).bind fun q1 =>
  (Heap.ld H q1.1 q1.2).bind fun c2 =>
  (C.asI .i64 c2).bind fun n3 =>
  (withP t fun i4 o5 =>
  (Heap.ld H i4 (o5 + 3)).bind fun c6 =>
  (Heap.getMap H c6).bind fun es7 =>
  (findK .int (.int .i64 n3) es7).bind fun r8 =>
  (V.asC (r8.getD (.c (.bool false)))).bind fun c9 =>
  (C.asB c9).bind fun b10 =>
  (if (!b10) = true then
  f32_2 M g_0 g_1 g_2 x_0 x_1 x_2 x_3 x_4 t out x65 x66 (IntKind.wrap .i64 (x67 + 1)) H
  else
  (C.elem 3 g_2 n3).bind fun q11 =>
  (Heap.ld H q11.1 q11.2).bind fun c12 =>
  (C.asI .i64 c12).bind fun n13 =>
  (f48 M x_0 x_1 x_2 x_3 x_4 n13 H).bind fun q14 =>
  (V.ext q14.1 0).bind fun v15 =>
  (V.asC v15).bind fun c16 =>
  (C.asI .i64 c16).bind fun n17 =>
  (V.ext q14.1 1).bind fun v18 =>
  (V.asC v18).bind fun c19 =>
  let H20 := Heap.alloc q14.2 (.cells 3 [(.int .i64 0), .nilSlice, (.bool false)])
  (Heap.st M.lim H20 q14.2.next 0 [(.int .i64 n17), .nilSlice, (.bool false)]).bind fun H21 =>
  let H22 := Heap.alloc H21 (.cells 1 [(.int .i64 n3)])
  (Heap.cellsOf H22 1 (.slice H21.next 0 1)).bind fun xs23 =>
  (Heap.app M.lim H22 1 c19 xs23 1).bind fun q24 =>
  (C.len q24.1).bind fun k25 =>
  f32_3 M g_0 g_1 g_2 x_0 x_1 x_2 x_3 x_4 t out n3 (.ptr q14.2.next 0) x65 x66 x67 q24.1 ((k25 : Nat) : Int) 0 q24.2))
  else
  (C.len out).bind fun k26 =>
  (if (decide (60 < ((k26 : Nat) : Int))) = true then
  some ((.tuple [(.c .nilSlice), (.c (.int .i64 2))]), H)
  else
  some ((.tuple [(.c out), (.c (.int .i64 0))]), H))) := by
  unfold f32_2 mrun; rw [run_eq]; kernel_rfl
theorem f32_3_eq (M : Mach) (g_0 : Int) (g_1 : C) (g_2 : C) (x_0 : Int) (x_1 : C) (x_2 : C) (x_3 : C) (x_4 : C) (t : C) (out : C) (i : Int) (w : C) (x65 : C) (x66 : Int) (x67 : Int) (x94 : C) (x95 : Int) (x96 : Int) (H : Heap) : f32_3 M g_0 g_1 g_2 x_0 x_1 x_2 x_3 x_4 t out i w x65 x66 x67 x94 x95 x96 H =
  (if (decide (x96 < x95)) = true then
  (C.elem 1 x94 x96).bind fun q1 =>
  (Heap.ld H q1.1 q1.2).bind fun c2 =>
  (C.asI .i64 c2).bind fun n3 =>
  (V.asP (.c w)).bind fun a4 =>
  (Heap.ld H a4.1 (a4.2 + 1)).bind fun c5 =>
  let H6 := Heap.alloc H (.cells 1 [(.int .i64 n3)])
  (Heap.cellsOf H6 1 (.slice H.next 0 1)).bind fun xs7 =>
  (Heap.app M.lim H6 1 c5 xs7 1).bind fun q8 =>
  (V.asP (.c w)).bind fun a9 =>
  (Heap.st M.lim q8.2 a9.1 (a9.2 + 1) [q8.1]).bind fun H10 =>
  (withP t fun i11 o12 =>
  (Heap.ld H10 i11 (o12 + 3)).bind fun c13 =>
  (Heap.mdel M.lim H10 .int c13 (.int .i64 n3)).bind fun H14 =>
  f32_3 M g_0 g_1 g_2 x_0 x_1 x_2 x_3 x_4 t out i w x65 x66 x67 x94 x95 (IntKind.wrap .i64 (x96 + 1)) H14)
  else
  (C.elem 3 g_2 i).bind fun q15 =>
  (Heap.ld H q15.1 (q15.2 + 1)).bind fun c16 =>
  (C.asI .i64 c16).bind fun n17 =>
  (f57 M t w n17 H).bind fun q18 =>
  (V.asP (.c w)).bind fun a19 =>
  (Heap.ld q18.2 a19.1 a19.2).bind fun c20 =>
  (C.asI .i64 c20).bind fun n21 =>
  (Heap.ld q18.2 a19.1 (a19.2 + 1)).bind fun c22 =>
  (Heap.ld q18.2 a19.1 ((a19.2 + 1) + 1)).bind fun c23 =>
  (C.asB c23).bind fun b24 =>
  let H25 := Heap.alloc q18.2 (.cells 3 [(.int .i64 n21), c22, (.bool b24)])
  (Heap.cellsOf H25 3 (.slice q18.2.next 0 1)).bind fun xs26 =>
  (Heap.app M.lim H25 3 out xs26 1).bind fun q27 =>
  f32_2 M g_0 g_1 g_2 x_0 x_1 x_2 x_3 x_4 t q27.1 x65 x66 (IntKind.wrap .i64 (x67 + 1)) q27.2) := by
  unfold f32_3 mrun; rw [run_eq]; kernel_rfl
-- stutter/stutterref20.Uncovered
theorem f33_eq (M : Mach) (g_0 : Int) (g_1 : C) (g_2 : C) (l : C) (H : Heap) : f33 M g_0 g_1 g_2 l H =
  (f22 M g_0 g_1 g_2 H).bind fun q1 =>
  (V.asC q1.1).bind fun c2 =>
  (f35 M g_0 g_1 g_2 l q1.2).bind fun q3 =>
  (V.asA q3.1).bind fun c4 =>
  (headC c4).bind fun c5 =>
  (headC (c4.drop 1)).bind fun c6 =>
  (if (((c4.drop 1).drop 1)).length = 0 then
  f33_1 M g_0 g_1 g_2 c2 c5 c6 .nilSlice 0 q3.2
  else
  none) := by
  unfold f33 mrun; rw [run_eq]; kernel_rfl
theorem f33_1_eq (M : Mach) (g_0 : Int) (g_1 : C) (g_2 : C) (far : C) (taken_0 : C) (taken_1 : C) (out : C) (i : Int) (H : Heap) : f33_1 M g_0 g_1 g_2 far taken_0 taken_1 out i H =
  (C.len g_2).bind fun k1 =>
  (if (decide (i < ((k1 : Nat) : Int))) = true then
  (C.elem 3 g_2 i).bind fun q2 =>
  (Heap.ld H q2.1 q2.2).bind fun c3 =>
  (C.asI .i64 c3).bind fun n4 =>
  (C.elem 1 far n4).bind fun q5 =>
  (Heap.ld H q5.1 q5.2).bind fun c6 =>
  (C.asI .i64 c6).bind fun n7 =>
  (if (!decide (n7 = (-1))) = true then
  (C.elem 1 taken_1 i).bind fun q9 =>
  (Heap.ld H q9.1 q9.2).bind fun c10 =>
  (C.asI .i64 c10).bind fun n11 =>
  some (decide (n11 = 0), H)
  else
  some (!decide (n7 = (-1)), H)).bind fun q8 =>
  (if q8.1 = true then
  let H12 := Heap.alloc q8.2 (.cells 1 [(.int .i64 i)])
  (Heap.cellsOf H12 1 (.slice q8.2.next 0 1)).bind fun xs13 =>
  (Heap.app M.lim H12 1 out xs13 1).bind fun q14 =>
  f33_2 M g_0 g_1 g_2 far taken_0 taken_1 q14.1 i q14.2
  else
  f33_2 M g_0 g_1 g_2 far taken_0 taken_1 out i q8.2)
  else
  some ((.c out), H)) := by
  unfold f33_1 mrun; rw [run_eq]; kernel_rfl
theorem f33_2_eq (M : Mach) (g_0 : Int) (g_1 : C) (g_2 : C) (far : C) (taken_0 : C) (taken_1 : C) (out : C) (i : Int) (H : Heap) : f33_2 M g_0 g_1 g_2 far taken_0 taken_1 out i H =
  f33_1 M g_0 g_1 g_2 far taken_0 taken_1 out (IntKind.wrap .i64 (i + 1)) H := by
  unfold f33_2 mrun; rw [run_eq]; kernel_rfl
-- stutter/stutterref20.WalksErr
theorem f34_eq (M : Mach) (g_0 : Int) (g_1 : C) (g_2 : C) (l : C) (H : Heap) : f34 M g_0 g_1 g_2 l H =
  (f20 M g_0 g_1 g_2 H).bind fun q1 =>
  (V.asC q1.1).bind fun c2 =>
  (C.asB c2).bind fun b3 =>
  (if (!b3) = true then
  some ((.c (.int .i64 5)), q1.2)
  else
  (C.len l).bind fun k4 =>
  (if (decide (60 < ((k4 : Nat) : Int))) = true then
  some ((.c (.int .i64 2)), q1.2)
  else
  f34_1 M l g_0 g_1 g_2 0 q1.2)) := by
  unfold f34 mrun; rw [run_eq]; kernel_rfl
theorem f34_1_eq (M : Mach) (l : C) (g_0 : Int) (g_1 : C) (g_2 : C) (i : Int) (H : Heap) : f34_1 M l g_0 g_1 g_2 i H =
  (C.len l).bind fun k1 =>
  (if (decide (i < ((k1 : Nat) : Int))) = true then
  (C.elem 3 l i).bind fun q2 =>
  (Heap.ld H q2.1 q2.2).bind fun c3 =>
  (C.asI .i64 c3).bind fun n4 =>
  (Heap.ld H q2.1 (q2.2 + 1)).bind fun c5 =>
  (Heap.ld H q2.1 ((q2.2 + 1) + 1)).bind fun c6 =>
  (C.asB c6).bind fun b7 =>
  (f31 M g_0 g_1 g_2 n4 c5 b7 H).bind fun q8 =>
  (V.ext q8.1 0).bind fun v9 =>
  (V.asC v9).bind fun c10 =>
  (C.asI .i64 c10).bind fun n11 =>
  (V.ext q8.1 1).bind fun v12 =>
  (V.asC v12).bind fun c13 =>
  (C.asI .i64 c13).bind fun n14 =>
  (if (!decide (n14 = 0)) = true then
  some ((.c (.int .i64 n14)), q8.2)
  else
  f34_1 M l g_0 g_1 g_2 (IntKind.wrap .i64 (i + 1)) q8.2)
  else
  some ((.c (.int .i64 0)), H)) := by
  unfold f34_1 mrun; rw [run_eq]; kernel_rfl
-- stutter/stutterref20.Coverage
theorem f35_eq (M : Mach) (g_0 : Int) (g_1 : C) (g_2 : C) (l : C) (H : Heap) : f35 M g_0 g_1 g_2 l H =
  (if 0 ≤ g_0 ∧ g_0 ≤ 2 ^ 36 then
  let H1 := Heap.alloc H (.cells 1 (List.replicate (Int.toNat g_0) [(.int .i64 0)]).flatten)
  (C.len g_2).bind fun k2 =>
  (if 0 ≤ ((k2 : Nat) : Int) ∧ ((k2 : Nat) : Int) ≤ 2 ^ 36 then
  let H3 := Heap.alloc H1 (.cells 1 (List.replicate (Int.toNat ((k2 : Nat) : Int)) [(.int .i64 0)]).flatten)
  f35_1 M l g_0 g_1 g_2 .nilSlice .nilSlice (.slice H.next 0 (Int.toNat g_0)) (.slice H1.next 0 (Int.toNat ((k2 : Nat) : Int))) 0 H3
  else
  none)
  else
  none) := by
  unfold f35 mrun; rw [run_eq]; kernel_rfl
theorem f35_1_eq (M : Mach) (l : C) (g_0 : Int) (g_1 : C) (g_2 : C) (x4_0 : C) (x4_1 : C) (out_0 : C) (out_1 : C) (i : Int) (H : Heap) : f35_1 M l g_0 g_1 g_2 x4_0 x4_1 out_0 out_1 i H =
  (C.len l).bind fun k1 =>
  (if (decide (i < ((k1 : Nat) : Int))) = true then
  (C.elem 3 l i).bind fun q2 =>
  (Heap.ld H q2.1 q2.2).bind fun c3 =>
  (C.asI .i64 c3).bind fun n4 =>
  (C.elem 3 l i).bind fun q5 =>
  (Heap.ld H q5.1 q5.2).bind fun c6 =>
  (C.asI .i64 c6).bind fun n7 =>
  (C.elem 1 out_0 n7).bind fun q8 =>
  (Heap.ld H q8.1 q8.2).bind fun c9 =>
  (C.asI .i64 c9).bind fun n10 =>
  (C.elem 1 out_0 n4).bind fun q11 =>
  (Heap.st M.lim H q11.1 q11.2 [(.int .i64 (IntKind.wrap .i64 (n10 + 1)))]).bind fun H12 =>
  f35_2 M l g_0 g_1 g_2 x4_0 x4_1 out_0 out_1 i 0 H12
  else
  some ((.agg [out_0, out_1]), H)) := by
  unfold f35_1 mrun; rw [run_eq]; kernel_rfl
theorem f35_2_eq (M : Mach) (l : C) (g_0 : Int) (g_1 : C) (g_2 : C) (x4_0 : C) (x4_1 : C) (out_0 : C) (out_1 : C) (i : Int) (k : Int) (H : Heap) : f35_2 M l g_0 g_1 g_2 x4_0 x4_1 out_0 out_1 i k H =
  (C.elem 3 l i).bind fun q1 =>
  (Heap.ld H q1.1 (q1.2 + 1)).bind fun c2 =>
  (C.len c2).bind fun k3 =>
  (if (decide (k < ((k3 : Nat) : Int))) = true then
  (C.elem 3 l i).bind fun q4 =>
  (Heap.ld H q4.1 (q4.2 + 1)).bind fun c5 =>
  (C.elem 1 c5 k).bind fun q6 =>
  (Heap.ld H q6.1 q6.2).bind fun c7 =>
  (C.asI .i64 c7).bind fun n8 =>
  (C.elem 1 out_1 n8).bind fun q9 =>
  (Heap.ld H q9.1 q9.2).bind fun c10 =>
  (C.asI .i64 c10).bind fun n11 =>
  (C.elem 1 out_1 n8).bind fun q12 =>
  (Heap.st M.lim H q12.1 q12.2 [(.int .i64 (IntKind.wrap .i64 (n11 + 1)))]).bind fun H13 =>
  (C.elem 3 g_2 n8).bind fun q14 =>
  (Heap.ld H13 q14.1 (q14.2 + 1)).bind fun c15 =>
  (C.asI .i64 c15).bind fun n16 =>
  (C.elem 3 g_2 n8).bind fun q17 =>
  (Heap.ld H13 q17.1 (q17.2 + 1)).bind fun c18 =>
  (C.asI .i64 c18).bind fun n19 =>
  (C.elem 1 out_0 n19).bind fun q20 =>
  (Heap.ld H13 q20.1 q20.2).bind fun c21 =>
  (C.asI .i64 c21).bind fun n22 =>
  (C.elem 1 out_0 n16).bind fun q23 =>
  (Heap.st M.lim H13 q23.1 q23.2 [(.int .i64 (IntKind.wrap .i64 (n22 + 1)))]).bind fun H24 =>
  f35_2 M l g_0 g_1 g_2 x4_0 x4_1 out_0 out_1 i (IntKind.wrap .i64 (k + 1)) H24
  else
  f35_1 M l g_0 g_1 g_2 x4_0 x4_1 out_0 out_1 (IntKind.wrap .i64 (i + 1)) H) := by
  unfold f35_2 mrun; rw [run_eq]; kernel_rfl
-- stutter/simulate.CoverageOf
theorem f36_eq (M : Mach) (g_0 : Int) (g_1 : C) (g_2 : C) (l : C) (H : Heap) : f36 M g_0 g_1 g_2 l H =
  (f58 M g_0 g_1 g_2 l H).bind fun q1 =>
  (V.asC q1.1).bind fun c2 =>
  (C.asI .i64 c2).bind fun n3 =>
  (if (!decide (n3 = 0)) = true then
  some ((.tuple [(.agg [.nilSlice, .nilSlice]), (.c (.int .i64 n3))]), q1.2)
  else
  (f59 M g_0 g_1 g_2 l q1.2).bind fun q4 =>
  (V.asA q4.1).bind fun c5 =>
  (headC c5).bind fun c6 =>
  (headC (c5.drop 1)).bind fun c7 =>
  (if (((c5.drop 1).drop 1)).length = 0 then
  some ((.tuple [(.agg [c6, c7]), (.c (.int .i64 0))]), q4.2)
  else
  none)) := by
  unfold f36 mrun; rw [run_eq]; kernel_rfl
-- stutter/stutterref20.OwnWalks
theorem f37_eq (M : Mach) (l : C) (H : Heap) : f37 M l H =
  f37_1 M l .nilSlice 0 H := by
  unfold f37 mrun; rw [run_eq]; kernel_rfl
theorem f37_1_eq (M : Mach) (l : C) (out : C) (i : Int) (H : Heap) : f37_1 M l out i H =
  (C.len l).bind fun k1 =>
  (if (decide (i < ((k1 : Nat) : Int))) = true then
  (C.elem 3 l i).bind fun q2 =>
  (Heap.ld H q2.1 q2.2).bind fun c3 =>
  (C.asI .i64 c3).bind fun n4 =>
  (Heap.ld H q2.1 (q2.2 + 1)).bind fun c5 =>
  (Heap.ld H q2.1 ((q2.2 + 1) + 1)).bind fun c6 =>
  (C.asB c6).bind fun b7 =>
  (f29 M n4 c5 b7 H).bind fun q8 =>
  (V.asA q8.1).bind fun c9 =>
  (headC c9).bind fun c10 =>
  (C.asI .i64 c10).bind fun n11 =>
  (headC (c9.drop 1)).bind fun c12 =>
  (headC ((c9.drop 1).drop 1)).bind fun c13 =>
  (C.asB c13).bind fun b14 =>
  (if ((((c9.drop 1).drop 1).drop 1)).length = 0 then
  let H15 := Heap.alloc q8.2 (.cells 3 [(.int .i64 n11), c12, (.bool b14)])
  (Heap.cellsOf H15 3 (.slice q8.2.next 0 1)).bind fun xs16 =>
  (Heap.app M.lim H15 3 out xs16 1).bind fun q17 =>
  f37_1 M l q17.1 (IntKind.wrap .i64 (i + 1)) q17.2
  else
  none)
  else
  some ((.c out), H)) := by
  unfold f37_1 mrun; rw [run_eq]; kernel_rfl
-- stutter/simulate.UncoveredIn
theorem f38_eq (M : Mach) (g_0 : Int) (g_1 : C) (g_2 : C) (l : C) (H : Heap) : f38 M g_0 g_1 g_2 l H =
  (f58 M g_0 g_1 g_2 l H).bind fun q1 =>
  (V.asC q1.1).bind fun c2 =>
  (C.asI .i64 c2).bind fun n3 =>
  (if (!decide (n3 = 0)) = true then
  some ((.tuple [(.c .nilSlice), (.c (.int .i64 n3))]), q1.2)
  else
  (f59 M g_0 g_1 g_2 l q1.2).bind fun q4 =>
  (V.asA q4.1).bind fun c5 =>
  (headC c5).bind fun c6 =>
  (headC (c5.drop 1)).bind fun c7 =>
  (if (((c5.drop 1).drop 1)).length = 0 then
  let H8 := Heap.alloc q4.2 (.cells 1 [.nilSlice])
  (Heap.st M.lim H8 q4.2.next 0 [c7]).bind fun H9 =>
  (f56 M g_0 g_1 g_2 H9).bind fun q10 =>
  (V.asC q10.1).bind fun c11 =>
  (f60 M c11 (.func 61 [] [(.ptr q4.2.next 0)]) q10.2).bind fun q12 =>
  (V.asC q12.1).bind fun c13 =>
  some ((.tuple [(.c c13), (.c (.int .i64 0))]), q12.2)
  else
  none)) := by
  unfold f38 mrun; rw [run_eq]; kernel_rfl
-- stutter/stutterlaw20.Example
theorem f39_eq (M : Mach) (H : Heap) : f39 M H =
  let H1 := Heap.alloc H (.cells 1 [(.int .i64 0)])
  let H2 := Heap.alloc H1 (.cells 3 [(.int .i64 0), (.int .i64 1), (.int .i64 0), (.int .i64 0), (.int .i64 2), (.int .i64 1), (.int .i64 1), (.int .i64 0), (.int .i64 0)])
  some ((.agg [(.int .i64 3), (.slice H.next 0 1), (.slice H1.next 0 3)]), H2) := by
  unfold f39 mrun; rw [run_eq]; kernel_rfl
-- stutter/stutterlaw20.Equal
theorem f40_eq (M : Mach) (H : Heap) : f40 M H =
  f40_1 M .nilSlice 0 H := by
  unfold f40 mrun; rw [run_eq]; kernel_rfl
theorem f40_1_eq (M : Mach) (w : C) (i : Int) (H : Heap) : f40_1 M w i H =
  (if (decide (i < 12)) = true then
  let H1 := Heap.alloc H (.cells 1 [(.int .i64 1)])
  (Heap.cellsOf H1 1 (.slice H.next 0 1)).bind fun xs2 =>
  (Heap.app M.lim H1 1 w xs2 1).bind fun q3 =>
  f40_1 M q3.1 (IntKind.wrap .i64 (i + 1)) q3.2
  else
  some ((.c w), H)) := by
  unfold f40_1 mrun; rw [run_eq]; kernel_rfl
-- stutter/simulate.either
theorem f41_eq (M : Mach) (l : C) (H : Heap) : f41 M l H =
  (C.len l).bind fun k1 =>
  f41_1 M l ((k1 : Nat) : Int) 0 H := by
  unfold f41 mrun; rw [run_eq]; kernel_rfl
theorem f41_1_eq (M : Mach) (x5 : C) (x6 : Int) (x7 : Int) (H : Heap) : f41_1 M x5 x6 x7 H =
  (if (decide (x7 < x6)) = true then
  (C.elem 1 x5 x7).bind fun q1 =>
  (Heap.ld H q1.1 q1.2).bind fun c2 =>
  (C.asI .i64 c2).bind fun n3 =>
  (if (!decide (n3 = 0)) = true then
  some ((.c (.int .i64 n3)), H)
  else
  f41_1 M x5 x6 (IntKind.wrap .i64 (x7 + 1)) H)
  else
  some ((.c (.int .i64 0)), H)) := by
  unfold f41_1 mrun; rw [run_eq]; kernel_rfl
-- stutter/simulate.seedErr
theorem f42_eq (M : Mach) (seed : Int) (H : Heap) : f42 M seed H =
  (f44 M seed 1 2147483646 H).bind fun q1 =>
  (V.asC q1.1).bind fun c2 =>
  (C.asB c2).bind fun b3 =>
  (f43 M b3 3 q1.2).bind fun q4 =>
  (V.asC q4.1).bind fun c5 =>
  (C.asI .i64 c5).bind fun n6 =>
  some ((.c (.int .i64 n6)), q4.2) := by
  unfold f42 mrun; rw [run_eq]; kernel_rfl
-- stutter/simulate.unless
theorem f43_eq (M : Mach) (holds : Bool) (e : Int) (H : Heap) : f43 M holds e H =
  (if holds = true then
  some ((.c (.int .i64 0)), H)
  else
  some ((.c (.int .i64 e)), H)) := by
  unfold f43 mrun; rw [run_eq]; kernel_rfl
-- stutter/simulate.in
theorem f44_eq (M : Mach) (n : Int) (lo : Int) (hi : Int) (H : Heap) : f44 M n lo hi H =
  (if (decide (lo ≤ n)) = true then
  some (decide (n ≤ hi), H)
  else
  some (decide (lo ≤ n), H)).bind fun q1 =>
  some ((.c (.bool q1.1)), q1.2) := by
  unfold f44 mrun; rw [run_eq]; kernel_rfl
-- (*stutter/simulate.numbers).next
theorem f45_eq (M : Mach) (n : C) (H : Heap) : f45 M n H =
  (withP n fun i1 o2 =>
  (Heap.ld H i1 o2).bind fun c3 =>
  (C.asI .i64 c3).bind fun n4 =>
  (withP n fun i5 o6 =>
  (Heap.st M.lim H i5 o6 [(.int .i64 (Int.tmod (IntKind.wrap .i64 (n4 * 48271)) 2147483647))]).bind fun H7 =>
  (withP n fun i8 o9 =>
  (Heap.ld H7 i8 o9).bind fun c10 =>
  (C.asI .i64 c10).bind fun n11 =>
  some ((.c (.int .i64 n11)), H7)))) := by
  unfold f45 mrun; rw [run_eq]; kernel_rfl
-- stutter/simulate.graphErr
theorem f46_eq (M : Mach) (g_0 : Int) (g_1 : C) (g_2 : C) (H : Heap) : f46 M g_0 g_1 g_2 H =
  let H1 := Heap.alloc H (.cells 3 [(.int .i64 g_0), g_1, g_2])
  (Heap.ld H1 H.next 0).bind fun c2 =>
  (C.asI .i64 c2).bind fun n3 =>
  (f44 M n3 0 400 H1).bind fun q4 =>
  (V.asC q4.1).bind fun c5 =>
  (C.asB c5).bind fun b6 =>
  (if b6 = true then
  (Heap.ld q4.2 H.next 2).bind fun c8 =>
  (C.len c8).bind fun k9 =>
  some (decide (((k9 : Nat) : Int) ≤ 2000), q4.2)
  else
  some (b6, q4.2)).bind fun q7 =>
  (Heap.ld q7.2 H.next 1).bind fun c10 =>
  (C.len c10).bind fun k11 =>
  f46_1 M (.ptr H.next 0) (.func 62 [] [(.ptr H.next 0)]) (.func 63 [] []) q7.1 c10 ((k11 : Nat) : Int) 0 q7.2 := by
  unfold f46 mrun; rw [run_eq]; kernel_rfl
theorem f46_1_eq (M : Mach) (g : C) (state : C) (order : C) (right : Bool) (x21 : C) (x22 : Int) (x23 : Int) (H : Heap) : f46_1 M g state order right x21 x22 x23 H =
  (if (decide (x23 < x22)) = true then
  (C.elem 1 x21 x23).bind fun q1 =>
  (Heap.ld H q1.1 q1.2).bind fun c2 =>
  (C.asI .i64 c2).bind fun n3 =>
  (if right = true then
  (C.asF state).bind fun g5 =>
  (mcall M g5.1 (g5.2.1.map .c ++ [(.c (.int .i64 n3))] ++ g5.2.2.map .c) H).bind fun q6 =>
  (V.asC q6.1).bind fun c7 =>
  (C.asB c7).bind fun b8 =>
  some (b8, q6.2)
  else
  some (right, H)).bind fun q4 =>
  (if q4.1 = true then
  (if (decide (x23 = 0)) = false then
  (V.asP (.c g)).bind fun a11 =>
  (Heap.ld q4.2 a11.1 (a11.2 + 1)).bind fun c12 =>
  (C.elem 1 c12 (IntKind.wrap .i64 (x23 - 1))).bind fun q13 =>
  (Heap.ld q4.2 q13.1 q13.2).bind fun c14 =>
  (C.asI .i64 c14).bind fun n15 =>
  some (decide (n15 < n3), q4.2)
  else
  some (decide (x23 = 0), q4.2)).bind fun q10 =>
  some (q10.1, q10.2)
  else
  some (q4.1, q4.2)).bind fun q9 =>
  f46_1 M g state order q9.1 x21 x22 (IntKind.wrap .i64 (x23 + 1)) q9.2
  else
  (V.asP (.c g)).bind fun a16 =>
  (Heap.ld H a16.1 (a16.2 + 2)).bind fun c17 =>
  (C.len c17).bind fun k18 =>
  f46_2 M g state order right c17 ((k18 : Nat) : Int) 0 H) := by
  unfold f46_1 mrun; rw [run_eq]; kernel_rfl
theorem f46_2_eq (M : Mach) (g : C) (state : C) (order : C) (right : Bool) (x50 : C) (x51 : Int) (x52 : Int) (H : Heap) : f46_2 M g state order right x50 x51 x52 H =
  (if (decide (x52 < x51)) = true then
  (C.elem 3 x50 x52).bind fun q1 =>
  (Heap.ld H q1.1 q1.2).bind fun c2 =>
  (C.asI .i64 c2).bind fun n3 =>
  (Heap.ld H q1.1 (q1.2 + 1)).bind fun c4 =>
  (C.asI .i64 c4).bind fun n5 =>
  (Heap.ld H q1.1 ((q1.2 + 1) + 1)).bind fun c6 =>
  (C.asI .i64 c6).bind fun n7 =>
  (if right = true then
  (C.asF state).bind fun g9 =>
  (mcall M g9.1 (g9.2.1.map .c ++ [(.c (.int .i64 n3))] ++ g9.2.2.map .c) H).bind fun q10 =>
  (V.asC q10.1).bind fun c11 =>
  (C.asB c11).bind fun b12 =>
  some (b12, q10.2)
  else
  some (right, H)).bind fun q8 =>
  (if q8.1 = true then
  (C.asF state).bind fun g14 =>
  (mcall M g14.1 (g14.2.1.map .c ++ [(.c (.int .i64 n5))] ++ g14.2.2.map .c) q8.2).bind fun q15 =>
  (V.asC q15.1).bind fun c16 =>
  (C.asB c16).bind fun b17 =>
  some (b17, q15.2)
  else
  some (q8.1, q8.2)).bind fun q13 =>
  (if q13.1 = true then
  (f44 M n7 0 11 q13.2).bind fun q19 =>
  (V.asC q19.1).bind fun c20 =>
  (C.asB c20).bind fun b21 =>
  some (b21, q19.2)
  else
  some (q13.1, q13.2)).bind fun q18 =>
  (if q18.1 = true then
  (if (decide (x52 = 0)) = false then
  (V.asP (.c g)).bind fun a24 =>
  (Heap.ld q18.2 a24.1 (a24.2 + 2)).bind fun c25 =>
  (C.elem 3 c25 (IntKind.wrap .i64 (x52 - 1))).bind fun q26 =>
  (Heap.ld q18.2 q26.1 q26.2).bind fun c27 =>
  (C.asI .i64 c27).bind fun n28 =>
  (Heap.ld q18.2 q26.1 (q26.2 + 1)).bind fun c29 =>
  (C.asI .i64 c29).bind fun n30 =>
  (Heap.ld q18.2 q26.1 ((q26.2 + 1) + 1)).bind fun c31 =>
  (C.asI .i64 c31).bind fun n32 =>
  (C.asF order).bind fun g33 =>
  (mcall M g33.1 (g33.2.1.map .c ++ [(.agg [(.int .i64 n28), (.int .i64 n30), (.int .i64 n32)]), (.agg [(.int .i64 n3), (.int .i64 n5), (.int .i64 n7)])] ++ g33.2.2.map .c) q18.2).bind fun q34 =>
  (V.asC q34.1).bind fun c35 =>
  (C.asI .i64 c35).bind fun n36 =>
  some (decide (n36 < 0), q34.2)
  else
  some (decide (x52 = 0), q18.2)).bind fun q23 =>
  some (q23.1, q23.2)
  else
  some (q18.1, q18.2)).bind fun q22 =>
  f46_2 M g state order q22.1 x50 x51 (IntKind.wrap .i64 (x52 + 1)) q22.2
  else
  (f43 M right 5 H).bind fun q37 =>
  (V.asC q37.1).bind fun c38 =>
  (C.asI .i64 c38).bind fun n39 =>
  some ((.c (.int .i64 n39)), q37.2)) := by
  unfold f46_2 mrun; rw [run_eq]; kernel_rfl
-- stutter/simulate.farFrom
theorem f47_eq (M : Mach) (g_0 : Int) (g_1 : C) (g_2 : C) (vfrom : C) (H : Heap) : f47 M g_0 g_1 g_2 vfrom H =
  (f53 M g_0 g_1 g_2 H).bind fun q1 =>
  (V.asC q1.1).bind fun c2 =>
  let H3 := Heap.alloc q1.2 (.cells 1 [(.int .i64 (-1))])
  (f66 M (.slice q1.2.next 0 1) g_0 H3).bind fun q4 =>
  (V.asC q4.1).bind fun c5 =>
  let H6 := Heap.alloc q4.2 (.cells 1 [(.int .i64 (-1))])
  (f66 M (.slice q4.2.next 0 1) g_0 H6).bind fun q7 =>
  (V.asC q7.1).bind fun c8 =>
  (f67 M vfrom q7.2).bind fun q9 =>
  (V.asC q9.1).bind fun c10 =>
  (C.len vfrom).bind fun k11 =>
  f47_1 M g_0 g_1 g_2 0 .nilSlice .nilSlice .nilSlice .nilSlice c2 g_0 g_1 g_2 c5 c8 c10 vfrom ((k11 : Nat) : Int) 0 q9.2 := by
  unfold f47 mrun; rw [run_eq]; kernel_rfl
theorem f47_1_eq (M : Mach) (g_0 : Int) (g_1 : C) (g_2 : C) (x4_0 : Int) (x4_1 : C) (x4_2 : C) (x4_3 : C) (x4_4 : C) (out : C) (x_0 : Int) (x_1 : C) (x_2 : C) (x_3 : C) (x_4 : C) (vopen : C) (x28 : C) (x29 : Int) (x30 : Int) (H : Heap) : f47_1 M g_0 g_1 g_2 x4_0 x4_1 x4_2 x4_3 x4_4 out x_0 x_1 x_2 x_3 x_4 vopen x28 x29 x30 H =
  (if (decide (x30 < x29)) = true then
  (C.elem 1 x28 x30).bind fun q1 =>
  (Heap.ld H q1.1 q1.2).bind fun c2 =>
  (C.asI .i64 c2).bind fun n3 =>
  (C.elem 1 x_3 n3).bind fun q4 =>
  (Heap.st M.lim H q4.1 q4.2 [(.int .i64 0)]).bind fun H5 =>
  f47_1 M g_0 g_1 g_2 x4_0 x4_1 x4_2 x4_3 x4_4 out x_0 x_1 x_2 x_3 x_4 vopen x28 x29 (IntKind.wrap .i64 (x30 + 1)) H5
  else
  f47_2 M g_0 g_1 g_2 x4_0 x4_1 x4_2 x4_3 x4_4 out x_0 x_1 x_2 x_3 x_4 vopen H) := by
  unfold f47_1 mrun; rw [run_eq]; kernel_rfl
theorem f47_2_eq (M : Mach) (g_0 : Int) (g_1 : C) (g_2 : C) (x4_0 : Int) (x4_1 : C) (x4_2 : C) (x4_3 : C) (x4_4 : C) (out : C) (x_0 : Int) (x_1 : C) (x_2 : C) (x_3 : C) (x_4 : C) (vopen : C) (H : Heap) : f47_2 M g_0 g_1 g_2 x4_0 x4_1 x4_2 x4_3 x4_4 out x_0 x_1 x_2 x_3 x_4 vopen H =
  (C.len vopen).bind fun k1 =>
  (if (decide (0 < ((k1 : Nat) : Int))) = true then
  (C.elem 1 vopen 0).bind fun q2 =>
  (Heap.ld H q2.1 q2.2).bind fun c3 =>
  (C.asI .i64 c3).bind fun n4 =>
  (Heap.sub M.lim H 1 vopen 1 none).bind fun c5 =>
  (C.elem 1 out n4).bind fun q6 =>
  (Heap.ld H q6.1 q6.2).bind fun c7 =>
  (C.len c7).bind fun k8 =>
  f47_3 M g_0 g_1 g_2 x4_0 x4_1 x4_2 x4_3 x4_4 out x_0 x_1 x_2 x_3 x_4 c5 n4 c7 ((k8 : Nat) : Int) 0 H
  else
  some ((.agg [(.int .i64 x_0), x_1, x_2, x_3, x_4]), H)) := by
  unfold f47_2 mrun; rw [run_eq]; kernel_rfl
theorem f47_3_eq (M : Mach) (g_0 : Int) (g_1 : C) (g_2 : C) (x4_0 : Int) (x4_1 : C) (x4_2 : C) (x4_3 : C) (x4_4 : C) (out : C) (x_0 : Int) (x_1 : C) (x_2 : C) (x_3 : C) (x_4 : C) (vopen : C) (s : Int) (x50 : C) (x51 : Int) (x52 : Int) (H : Heap) : f47_3 M g_0 g_1 g_2 x4_0 x4_1 x4_2 x4_3 x4_4 out x_0 x_1 x_2 x_3 x_4 vopen s x50 x51 x52 H =
  (if (decide (x52 < x51)) = true then
  (C.elem 1 x50 x52).bind fun q1 =>
  (Heap.ld H q1.1 q1.2).bind fun c2 =>
  (C.asI .i64 c2).bind fun n3 =>
  (C.elem 3 g_2 n3).bind fun q4 =>
  (Heap.ld H q4.1 (q4.2 + 1)).bind fun c5 =>
  (C.asI .i64 c5).bind fun n6 =>
  (C.elem 1 x_3 n6).bind fun q7 =>
  (Heap.ld H q7.1 q7.2).bind fun c8 =>
  (C.asI .i64 c8).bind fun n9 =>
  (if (decide (n9 = (-1))) = true then
  (C.elem 1 x_3 s).bind fun q10 =>
  (Heap.ld H q10.1 q10.2).bind fun c11 =>
  (C.asI .i64 c11).bind fun n12 =>
  (C.elem 1 x_3 n6).bind fun q13 =>
  (Heap.st M.lim H q13.1 q13.2 [(.int .i64 (IntKind.wrap .i64 (n12 + 1)))]).bind fun H14 =>
  (C.elem 1 x_4 n6).bind fun q15 =>
  (Heap.st M.lim H14 q15.1 q15.2 [(.int .i64 n3)]).bind fun H16 =>
  let H17 := Heap.alloc H16 (.cells 1 [(.int .i64 n6)])
  (Heap.cellsOf H17 1 (.slice H16.next 0 1)).bind fun xs18 =>
  (Heap.app M.lim H17 1 vopen xs18 1).bind fun q19 =>
  f47_4 M g_0 g_1 g_2 x4_0 x4_1 x4_2 x4_3 x4_4 out x_0 x_1 x_2 x_3 x_4 q19.1 s x50 x51 x52 q19.2
  else
  f47_4 M g_0 g_1 g_2 x4_0 x4_1 x4_2 x4_3 x4_4 out x_0 x_1 x_2 x_3 x_4 vopen s x50 x51 x52 H)
  else
  f47_2 M g_0 g_1 g_2 x4_0 x4_1 x4_2 x4_3 x4_4 out x_0 x_1 x_2 x_3 x_4 vopen H) := by
  unfold f47_3 mrun; rw [run_eq]; kernel_rfl
theorem f47_4_eq (M : Mach) (g_0 : Int) (g_1 : C) (g_2 : C) (x4_0 : Int) (x4_1 : C) (x4_2 : C) (x4_3 : C) (x4_4 : C) (out : C) (x_0 : Int) (x_1 : C) (x_2 : C) (x_3 : C) (x_4 : C) (vopen : C) (s : Int) (x50 : C) (x51 : Int) (x52 : Int) (H : Heap) : f47_4 M g_0 g_1 g_2 x4_0 x4_1 x4_2 x4_3 x4_4 out x_0 x_1 x_2 x_3 x_4 vopen s x50 x51 x52 H =
  f47_3 M g_0 g_1 g_2 x4_0 x4_1 x4_2 x4_3 x4_4 out x_0 x_1 x_2 x_3 x_4 vopen s x50 x51 (IntKind.wrap .i64 (x52 + 1)) H := by
  unfold f47_4 mrun; rw [run_eq]; kernel_rfl
-- (stutter/simulate.far).path
theorem f48_eq (M : Mach) (x_0 : Int) (x_1 : C) (x_2 : C) (x_3 : C) (x_4 : C) (to : Int) (H : Heap) : f48 M x_0 x_1 x_2 x_3 x_4 to H =
  f48_1 M to x_0 x_1 x_2 x_3 x_4 .nilSlice H := by
  unfold f48 mrun; rw [run_eq]; kernel_rfl
theorem f48_1_eq (M : Mach) (to : Int) (x_0 : Int) (x_1 : C) (x_2 : C) (x_3 : C) (x_4 : C) (out : C) (H : Heap) : f48_1 M to x_0 x_1 x_2 x_3 x_4 out H =
  (C.elem 1 x_3 to).bind fun q1 =>
  (Heap.ld H q1.1 q1.2).bind fun c2 =>
  (C.asI .i64 c2).bind fun n3 =>
  (if (decide (0 < n3)) = true then
  (C.elem 1 x_4 to).bind fun q4 =>
  (Heap.ld H q4.1 q4.2).bind fun c5 =>
  (C.asI .i64 c5).bind fun n6 =>
  let H7 := Heap.alloc H (.cells 1 [(.int .i64 n6)])
  (Heap.cellsOf H7 1 (.slice H.next 0 1)).bind fun xs8 =>
  (Heap.app M.lim H7 1 out xs8 1).bind fun q9 =>
  (C.elem 1 x_4 to).bind fun q10 =>
  (Heap.ld q9.2 q10.1 q10.2).bind fun c11 =>
  (C.asI .i64 c11).bind fun n12 =>
  (C.elem 3 x_2 n12).bind fun q13 =>
  (Heap.ld q9.2 q13.1 q13.2).bind fun c14 =>
  (C.asI .i64 c14).bind fun n15 =>
  f48_1 M n15 x_0 x_1 x_2 x_3 x_4 q9.1 q9.2
  else
  (f68 M out H).bind fun q16 =>
  some ((.tuple [(.c (.int .i64 to)), (.c out)]), q16.2)) := by
  unfold f48_1 mrun; rw [run_eq]; kernel_rfl
-- stutter/stutterbase.FirstInts
theorem f49_eq (M : Mach) (a : C) (b : C) (H : Heap) : f49 M a b H =
  f49_1 M a b 0 H := by
  unfold f49 mrun; rw [run_eq]; kernel_rfl
theorem f49_1_eq (M : Mach) (a : C) (b : C) (i : Int) (H : Heap) : f49_1 M a b i H =
  (C.len a).bind fun k1 =>
  (if (decide (i < ((k1 : Nat) : Int))) = true then
  (C.len b).bind fun k3 =>
  some (decide (i < ((k3 : Nat) : Int)), H)
  else
  some (decide (i < ((k1 : Nat) : Int)), H)).bind fun q2 =>
  (if q2.1 = true then
  (C.elem 1 a i).bind fun q4 =>
  (Heap.ld q2.2 q4.1 q4.2).bind fun c5 =>
  (C.asI .i64 c5).bind fun n6 =>
  (C.elem 1 b i).bind fun q7 =>
  (Heap.ld q2.2 q7.1 q7.2).bind fun c8 =>
  (C.asI .i64 c8).bind fun n9 =>
  (if (!decide (n6 = n9)) = true then
  (C.elem 1 a i).bind fun q10 =>
  (Heap.ld q2.2 q10.1 q10.2).bind fun c11 =>
  (C.asI .i64 c11).bind fun n12 =>
  (C.elem 1 b i).bind fun q13 =>
  (Heap.ld q2.2 q13.1 q13.2).bind fun c14 =>
  (C.asI .i64 c14).bind fun n15 =>
  (f69 M (decide (n12 < n15)) q2.2).bind fun q16 =>
  (V.asC q16.1).bind fun c17 =>
  (C.asI .i64 c17).bind fun n18 =>
  some ((.c (.int .i64 (IntKind.wrap .i64 (1 - (IntKind.wrap .i64 (2 * n18)))))), q16.2)
  else
  f49_1 M a b (IntKind.wrap .i64 (i + 1)) q2.2)
  else
  (C.len a).bind fun k19 =>
  (C.len b).bind fun k20 =>
  (f69 M (decide (((k20 : Nat) : Int) < ((k19 : Nat) : Int))) q2.2).bind fun q21 =>
  (V.asC q21.1).bind fun c22 =>
  (C.asI .i64 c22).bind fun n23 =>
  (C.len a).bind fun k24 =>
  (C.len b).bind fun k25 =>
  (f69 M (decide (((k24 : Nat) : Int) < ((k25 : Nat) : Int))) q21.2).bind fun q26 =>
  (V.asC q26.1).bind fun c27 =>
  (C.asI .i64 c27).bind fun n28 =>
  some ((.c (.int .i64 (IntKind.wrap .i64 (n23 - n28)))), q26.2)) := by
  unfold f49_1 mrun; rw [run_eq]; kernel_rfl
-- stutter/stutterbase.edgeInts
theorem f50_eq (M : Mach) (x_0 : Int) (x_1 : Int) (x_2 : Int) (H : Heap) : f50 M x_0 x_1 x_2 H =
  let H1 := Heap.alloc H (.cells 1 [(.int .i64 x_0), (.int .i64 x_1), (.int .i64 x_2)])
  some ((.c (.slice H.next 0 3)), H1) := by
  unfold f50 mrun; rw [run_eq]; kernel_rfl
-- stutter/stutterbase.Holds
theorem f51_eq (M : Mach) (l : C) (n : Int) (H : Heap) : f51 M l n H =
  f51_1 M l n 0 H := by
  unfold f51 mrun; rw [run_eq]; kernel_rfl
theorem f51_1_eq (M : Mach) (l : C) (n : Int) (i : Int) (H : Heap) : f51_1 M l n i H =
  (C.len l).bind fun k1 =>
  (if (decide (i < ((k1 : Nat) : Int))) = true then
  (C.elem 1 l i).bind fun q2 =>
  (Heap.ld H q2.1 q2.2).bind fun c3 =>
  (C.asI .i64 c3).bind fun n4 =>
  (if (decide (n4 = n)) = true then
  some ((.c (.bool true)), H)
  else
  f51_1 M l n (IntKind.wrap .i64 (i + 1)) H)
  else
  some ((.c (.bool false)), H)) := by
  unfold f51_1 mrun; rw [run_eq]; kernel_rfl
-- stutter/simulate.weightsErr
theorem f52_eq (M : Mach) (w : C) (H : Heap) : f52 M w H =
  (f70 M w (.func 71 [] []) H).bind fun q1 =>
  (V.asC q1.1).bind fun c2 =>
  (C.asB c2).bind fun b3 =>
  (C.len w).bind fun k4 =>
  (f43 M (decide (((k4 : Nat) : Int) = 12)) 6 q1.2).bind fun q5 =>
  (V.asC q5.1).bind fun c6 =>
  (C.asI .i64 c6).bind fun n7 =>
  (f43 M (!b3) 3 q5.2).bind fun q8 =>
  (V.asC q8.1).bind fun c9 =>
  (C.asI .i64 c9).bind fun n10 =>
  let H11 := Heap.alloc q8.2 (.cells 1 [(.int .i64 n7), (.int .i64 n10)])
  (f41 M (.slice q8.2.next 0 2) H11).bind fun q12 =>
  (V.asC q12.1).bind fun c13 =>
  (C.asI .i64 c13).bind fun n14 =>
  some ((.c (.int .i64 n14)), q12.2) := by
  unfold f52 mrun; rw [run_eq]; kernel_rfl
-- stutter/simulate.outOf
theorem f53_eq (M : Mach) (g_0 : Int) (g_1 : C) (g_2 : C) (H : Heap) : f53 M g_0 g_1 g_2 H =
  (if 0 ≤ g_0 ∧ g_0 ≤ 2 ^ 36 then
  let H1 := Heap.alloc H (.cells 1 (List.replicate (Int.toNat g_0) [.nilSlice]).flatten)
  (C.len g_2).bind fun k2 =>
  f53_1 M (.slice H.next 0 (Int.toNat g_0)) g_2 ((k2 : Nat) : Int) 0 H1
  else
  none) := by
  unfold f53 mrun; rw [run_eq]; kernel_rfl
theorem f53_1_eq (M : Mach) (out : C) (x10 : C) (x11 : Int) (x12 : Int) (H : Heap) : f53_1 M out x10 x11 x12 H =
  (if (decide (x12 < x11)) = true then
  (C.elem 3 x10 x12).bind fun q1 =>
  (Heap.ld H q1.1 q1.2).bind fun c2 =>
  (C.asI .i64 c2).bind fun n3 =>
  (Heap.ld H q1.1 (q1.2 + 1)).bind fun c4 =>
  (C.asI .i64 c4).bind fun n5 =>
  (Heap.ld H q1.1 ((q1.2 + 1) + 1)).bind fun c6 =>
  (C.asI .i64 c6).bind fun n7 =>
  (C.elem 1 out n3).bind fun q8 =>
  (Heap.ld H q8.1 q8.2).bind fun c9 =>
  let H10 := Heap.alloc H (.cells 1 [(.int .i64 x12)])
  (Heap.cellsOf H10 1 (.slice H.next 0 1)).bind fun xs11 =>
  (Heap.app M.lim H10 1 c9 xs11 1).bind fun q12 =>
  (C.elem 1 out n3).bind fun q13 =>
  (Heap.st M.lim q12.2 q13.1 q13.2 [q12.1]).bind fun H14 =>
  f53_1 M out x10 x11 (IntKind.wrap .i64 (x12 + 1)) H14
  else
  some ((.c out), H)) := by
  unfold f53_1 mrun; rw [run_eq]; kernel_rfl
-- stutter/stutterref20.possible
theorem f54_eq (M : Mach) (g_0 : Int) (g_1 : C) (g_2 : C) (w : C) (s : Int) (H : Heap) : f54 M g_0 g_1 g_2 w s H =
  f54_1 M w s g_0 g_1 g_2 .nilSlice 0 0 H := by
  unfold f54 mrun; rw [run_eq]; kernel_rfl
theorem f54_1_eq (M : Mach) (w : C) (s : Int) (g_0 : Int) (g_1 : C) (g_2 : C) (out : C) (sum : Int) (i : Int) (H : Heap) : f54_1 M w s g_0 g_1 g_2 out sum i H =
  (C.len g_2).bind fun k1 =>
  (if (decide (i < ((k1 : Nat) : Int))) = true then
  (C.elem 3 g_2 i).bind fun q2 =>
  (Heap.ld H q2.1 q2.2).bind fun c3 =>
  (C.asI .i64 c3).bind fun n4 =>
  (if (decide (n4 = s)) = true then
  (C.elem 3 g_2 i).bind fun q6 =>
  (Heap.ld H q6.1 (q6.2 + 2)).bind fun c7 =>
  (C.asI .i64 c7).bind fun n8 =>
  (C.elem 1 w n8).bind fun q9 =>
  (Heap.ld H q9.1 q9.2).bind fun c10 =>
  (C.asI .i64 c10).bind fun n11 =>
  some (decide (0 < n11), H)
  else
  some (decide (n4 = s), H)).bind fun q5 =>
  (if q5.1 = true then
  let H12 := Heap.alloc q5.2 (.cells 1 [(.int .i64 i)])
  (Heap.cellsOf H12 1 (.slice q5.2.next 0 1)).bind fun xs13 =>
  (Heap.app M.lim H12 1 out xs13 1).bind fun q14 =>
  (C.elem 3 g_2 i).bind fun q15 =>
  (Heap.ld q14.2 q15.1 (q15.2 + 2)).bind fun c16 =>
  (C.asI .i64 c16).bind fun n17 =>
  (C.elem 1 w n17).bind fun q18 =>
  (Heap.ld q14.2 q18.1 q18.2).bind fun c19 =>
  (C.asI .i64 c19).bind fun n20 =>
  f54_2 M w s g_0 g_1 g_2 q14.1 (IntKind.wrap .i64 (sum + n20)) i q14.2
  else
  f54_2 M w s g_0 g_1 g_2 out sum i q5.2)
  else
  some ((.tuple [(.c out), (.c (.int .i64 sum))]), H)) := by
  unfold f54_1 mrun; rw [run_eq]; kernel_rfl
theorem f54_2_eq (M : Mach) (w : C) (s : Int) (g_0 : Int) (g_1 : C) (g_2 : C) (out : C) (sum : Int) (i : Int) (H : Heap) : f54_2 M w s g_0 g_1 g_2 out sum i H =
  f54_1 M w s g_0 g_1 g_2 out sum (IntKind.wrap .i64 (i + 1)) H := by
  unfold f54_2 mrun; rw [run_eq]; kernel_rfl
-- stutter/simulate.walkErr
theorem f55_eq (M : Mach) (g_0 : Int) (g_1 : C) (g_2 : C) (x_0 : Int) (x_1 : C) (x_2 : Bool) (H : Heap) : f55 M g_0 g_1 g_2 x_0 x_1 x_2 H =
  (C.len x_1).bind fun k1 =>
  (if (decide (300 < ((k1 : Nat) : Int))) = true then
  some ((.tuple [(.c (.int .i64 0)), (.c (.int .i64 2))]), H)
  else
  (f72 M g_1 x_0 H).bind fun q2 =>
  (V.asC q2.1).bind fun c3 =>
  (C.asB c3).bind fun b4 =>
  (if (!b4) = true then
  some ((.tuple [(.c (.int .i64 0)), (.c (.int .i64 10))]), q2.2)
  else
  (C.len x_1).bind fun k5 =>
  f55_1 M g_0 g_1 g_2 x_0 x_1 ((k5 : Nat) : Int) 0 q2.2)) := by
  unfold f55 mrun; rw [run_eq]; kernel_rfl
theorem f55_1_eq (M : Mach) (g_0 : Int) (g_1 : C) (g_2 : C) (vat : Int) (x22 : C) (x23 : Int) (x24 : Int) (H : Heap) : f55_1 M g_0 g_1 g_2 vat x22 x23 x24 H =
  (if (decide (x24 < x23)) = true then
  (C.elem 1 x22 x24).bind fun q1 =>
  (Heap.ld H q1.1 q1.2).bind fun c2 =>
  (C.asI .i64 c2).bind fun n3 =>
  (C.len g_2).bind fun k4 =>
  (f44 M n3 0 (IntKind.wrap .i64 (((k4 : Nat) : Int) - 1)) H).bind fun q5 =>
  (V.asC q5.1).bind fun c6 =>
  (C.asB c6).bind fun b7 =>
  (if (!b7) = true then
  some ((.tuple [(.c (.int .i64 0)), (.c (.int .i64 3))]), q5.2)
  else
  (C.elem 3 g_2 n3).bind fun q8 =>
  (Heap.ld q5.2 q8.1 q8.2).bind fun c9 =>
  (C.asI .i64 c9).bind fun n10 =>
  (if (!decide (n10 = vat)) = true then
  some ((.tuple [(.c (.int .i64 0)), (.c (.int .i64 14))]), q5.2)
  else
  (C.elem 3 g_2 n3).bind fun q11 =>
  (Heap.ld q5.2 q11.1 (q11.2 + 1)).bind fun c12 =>
  (C.asI .i64 c12).bind fun n13 =>
  f55_1 M g_0 g_1 g_2 n13 x22 x23 (IntKind.wrap .i64 (x24 + 1)) q5.2))
  else
  some ((.tuple [(.c (.int .i64 vat)), (.c (.int .i64 0))]), H)) := by
  unfold f55_1 mrun; rw [run_eq]; kernel_rfl
-- stutter/simulate.reachedSteps
theorem f56_eq (M : Mach) (g_0 : Int) (g_1 : C) (g_2 : C) (H : Heap) : f56 M g_0 g_1 g_2 H =
  (f47 M g_0 g_1 g_2 g_1 H).bind fun q1 =>
  (V.asA q1.1).bind fun c2 =>
  (headC c2).bind fun c3 =>
  (C.asI .i64 c3).bind fun n4 =>
  (headC (c2.drop 1)).bind fun c5 =>
  (headC ((c2.drop 1).drop 1)).bind fun c6 =>
  (headC (((c2.drop 1).drop 1).drop 1)).bind fun c7 =>
  (headC ((((c2.drop 1).drop 1).drop 1).drop 1)).bind fun c8 =>
  (if ((((((c2.drop 1).drop 1).drop 1).drop 1).drop 1)).length = 0 then
  (C.len g_2).bind fun k9 =>
  f56_1 M c7 .nilSlice g_2 ((k9 : Nat) : Int) 0 q1.2
  else
  none) := by
  unfold f56 mrun; rw [run_eq]; kernel_rfl
theorem f56_1_eq (M : Mach) (dist : C) (out : C) (x13 : C) (x14 : Int) (x15 : Int) (H : Heap) : f56_1 M dist out x13 x14 x15 H =
  (if (decide (x15 < x14)) = true then
  (C.elem 3 x13 x15).bind fun q1 =>
  (Heap.ld H q1.1 q1.2).bind fun c2 =>
  (C.asI .i64 c2).bind fun n3 =>
  (Heap.ld H q1.1 (q1.2 + 1)).bind fun c4 =>
  (C.asI .i64 c4).bind fun n5 =>
  (Heap.ld H q1.1 ((q1.2 + 1) + 1)).bind fun c6 =>
  (C.asI .i64 c6).bind fun n7 =>
  (C.elem 1 dist n3).bind fun q8 =>
  (Heap.ld H q8.1 q8.2).bind fun c9 =>
  (C.asI .i64 c9).bind fun n10 =>
  (if (!decide (n10 = (-1))) = true then
  let H11 := Heap.alloc H (.cells 1 [(.int .i64 x15)])
  (Heap.cellsOf H11 1 (.slice H.next 0 1)).bind fun xs12 =>
  (Heap.app M.lim H11 1 out xs12 1).bind fun q13 =>
  f56_2 M dist q13.1 x13 x14 x15 q13.2
  else
  f56_2 M dist out x13 x14 x15 H)
  else
  some ((.c out), H)) := by
  unfold f56_1 mrun; rw [run_eq]; kernel_rfl
theorem f56_2_eq (M : Mach) (dist : C) (out : C) (x13 : C) (x14 : Int) (x15 : Int) (H : Heap) : f56_2 M dist out x13 x14 x15 H =
  f56_1 M dist out x13 x14 (IntKind.wrap .i64 (x15 + 1)) H := by
  unfold f56_2 mrun; rw [run_eq]; kernel_rfl
-- (*stutter/simulate.tour).extend
theorem f57_eq (M : Mach) (t : C) (w : C) (vat : Int) (H : Heap) : f57 M t w vat H =
  f57_1 M t w vat H := by
  unfold f57 mrun; rw [run_eq]; kernel_rfl
theorem f57_1_eq (M : Mach) (t : C) (w : C) (vat : Int) (H : Heap) : f57_1 M t w vat H =
  (withP t fun i1 o2 =>
  (Heap.ld H i1 o2).bind fun c3 =>
  (C.asI .i64 c3).bind fun n4 =>
  (Heap.ld H i1 (o2 + 1)).bind fun c5 =>
  (Heap.ld H i1 ((o2 + 1) + 1)).bind fun c6 =>
  let H7 := Heap.alloc H (.cells 1 [(.int .i64 vat)])
  (f47 M n4 c5 c6 (.slice H.next 0 1) H7).bind fun q8 =>
  (V.asA q8.1).bind fun c9 =>
  (headC c9).bind fun c10 =>
  (C.asI .i64 c10).bind fun n11 =>
  (headC (c9.drop 1)).bind fun c12 =>
  (headC ((c9.drop 1).drop 1)).bind fun c13 =>
  (headC (((c9.drop 1).drop 1).drop 1)).bind fun c14 =>
  (headC ((((c9.drop 1).drop 1).drop 1).drop 1)).bind fun c15 =>
  (if ((((((c9.drop 1).drop 1).drop 1).drop 1).drop 1)).length = 0 then
  (withP t fun i16 o17 =>
  (Heap.ld q8.2 i16 (o17 + 2)).bind fun c18 =>
  (C.len c18).bind fun k19 =>
  f57_2 M t w n11 c12 c13 c14 c15 (-1) c18 ((k19 : Nat) : Int) 0 q8.2)
  else
  none)) := by
  unfold f57_1 mrun; rw [run_eq]; kernel_rfl
theorem f57_2_eq (M : Mach) (t : C) (w : C) (x_0 : Int) (x_1 : C) (x_2 : C) (x_3 : C) (x_4 : C) (best : Int) (x25 : C) (x26 : Int) (x27 : Int) (H : Heap) : f57_2 M t w x_0 x_1 x_2 x_3 x_4 best x25 x26 x27 H =
  (if (decide (x27 < x26)) = true then
  (C.elem 3 x25 x27).bind fun q1 =>
  (Heap.ld H q1.1 q1.2).bind fun c2 =>
  (C.asI .i64 c2).bind fun n3 =>
  (Heap.ld H q1.1 (q1.2 + 1)).bind fun c4 =>
  (C.asI .i64 c4).bind fun n5 =>
  (Heap.ld H q1.1 ((q1.2 + 1) + 1)).bind fun c6 =>
  (C.asI .i64 c6).bind fun n7 =>
  (withP t fun i8 o9 =>
  (Heap.ld H i8 (o9 + 3)).bind fun c10 =>
  (Heap.getMap H c10).bind fun es11 =>
  (findK .int (.int .i64 x27) es11).bind fun r12 =>
  (V.asC (r12.getD (.c (.bool false)))).bind fun c13 =>
  (C.asB c13).bind fun b14 =>
  (if b14 = true then
  (C.elem 1 x_3 n3).bind fun q16 =>
  (Heap.ld H q16.1 q16.2).bind fun c17 =>
  (C.asI .i64 c17).bind fun n18 =>
  some (!decide (n18 = (-1)), H)
  else
  some (b14, H)).bind fun q15 =>
  (if q15.1 = true then
  (if (decide (best = (-1))) = false then
  (C.elem 1 x_3 n3).bind fun q21 =>
  (Heap.ld q15.2 q21.1 q21.2).bind fun c22 =>
  (C.asI .i64 c22).bind fun n23 =>
  (withP t fun i24 o25 =>
  (Heap.ld q15.2 i24 (o25 + 2)).bind fun c26 =>
  (C.elem 3 c26 best).bind fun q27 =>
  (Heap.ld q15.2 q27.1 q27.2).bind fun c28 =>
  (C.asI .i64 c28).bind fun n29 =>
  (C.elem 1 x_3 n29).bind fun q30 =>
  (Heap.ld q15.2 q30.1 q30.2).bind fun c31 =>
  (C.asI .i64 c31).bind fun n32 =>
  some (decide (n23 < n32), q15.2))
  else
  some (decide (best = (-1)), q15.2)).bind fun q20 =>
  some (q20.1, q20.2)
  else
  some (q15.1, q15.2)).bind fun q19 =>
  (if q19.1 = true then
  f57_3 M t w x_0 x_1 x_2 x_3 x_4 x27 x25 x26 x27 q19.2
  else
  f57_3 M t w x_0 x_1 x_2 x_3 x_4 best x25 x26 x27 q19.2))
  else
  (if (decide (best = (-1))) = false then
  (withP w fun i34 o35 =>
  (Heap.ld H i34 (o35 + 1)).bind fun c36 =>
  (C.len c36).bind fun k37 =>
  (withP t fun i38 o39 =>
  (Heap.ld H i38 (o39 + 2)).bind fun c40 =>
  (C.elem 3 c40 best).bind fun q41 =>
  (Heap.ld H q41.1 q41.2).bind fun c42 =>
  (C.asI .i64 c42).bind fun n43 =>
  (C.elem 1 x_3 n43).bind fun q44 =>
  (Heap.ld H q44.1 q44.2).bind fun c45 =>
  (C.asI .i64 c45).bind fun n46 =>
  (withP t fun i47 o48 =>
  (Heap.ld H i47 (o48 + 4)).bind fun c49 =>
  (C.asI .i64 c49).bind fun n50 =>
  some (decide (n50 < (IntKind.wrap .i64 ((IntKind.wrap .i64 (((k37 : Nat) : Int) + n46)) + 1))), H))))
  else
  some (decide (best = (-1)), H)).bind fun q33 =>
  (if q33.1 = true then
  some ((.tuple []), q33.2)
  else
  (withP t fun i51 o52 =>
  (Heap.ld q33.2 i51 (o52 + 2)).bind fun c53 =>
  (C.elem 3 c53 best).bind fun q54 =>
  (Heap.ld q33.2 q54.1 q54.2).bind fun c55 =>
  (C.asI .i64 c55).bind fun n56 =>
  (f48 M x_0 x_1 x_2 x_3 x_4 n56 q33.2).bind fun q57 =>
  (V.ext q57.1 0).bind fun v58 =>
  (V.asC v58).bind fun c59 =>
  (C.asI .i64 c59).bind fun n60 =>
  (V.ext q57.1 1).bind fun v61 =>
  (V.asC v61).bind fun c62 =>
  let H63 := Heap.alloc q57.2 (.cells 1 [(.int .i64 best)])
  (Heap.cellsOf H63 1 (.slice q57.2.next 0 1)).bind fun xs64 =>
  (Heap.app M.lim H63 1 c62 xs64 1).bind fun q65 =>
  (C.len q65.1).bind fun k66 =>
  f57_4 M t w best q65.1 ((k66 : Nat) : Int) 0 q65.2))) := by
  unfold f57_2 mrun; rw [run_eq]; kernel_rfl
theorem f57_3_eq (M : Mach) (t : C) (w : C) (x_0 : Int) (x_1 : C) (x_2 : C) (x_3 : C) (x_4 : C) (best : Int) (x25 : C) (x26 : Int) (x27 : Int) (H : Heap) : f57_3 M t w x_0 x_1 x_2 x_3 x_4 best x25 x26 x27 H =
  f57_2 M t w x_0 x_1 x_2 x_3 x_4 best x25 x26 (IntKind.wrap .i64 (x27 + 1)) H := by
  unfold f57_3 mrun; rw [run_eq]; kernel_rfl
theorem f57_4_eq (M : Mach) (t : C) (w : C) (best : Int) (x121 : C) (x122 : Int) (x123 : Int) (H : Heap) : f57_4 M t w best x121 x122 x123 H =
  (if (decide (x123 < x122)) = true then
  (C.elem 1 x121 x123).bind fun q1 =>
  (Heap.ld H q1.1 q1.2).bind fun c2 =>
  (C.asI .i64 c2).bind fun n3 =>
  (withP w fun i4 o5 =>
  (Heap.ld H i4 (o5 + 1)).bind fun c6 =>
  let H7 := Heap.alloc H (.cells 1 [(.int .i64 n3)])
  (Heap.cellsOf H7 1 (.slice H.next 0 1)).bind fun xs8 =>
  (Heap.app M.lim H7 1 c6 xs8 1).bind fun q9 =>
  (withP w fun i10 o11 =>
  (Heap.st M.lim q9.2 i10 (o11 + 1) [q9.1]).bind fun H12 =>
  (withP t fun i13 o14 =>
  (Heap.ld H12 i13 (o14 + 3)).bind fun c15 =>
  (Heap.mdel M.lim H12 .int c15 (.int .i64 n3)).bind fun H16 =>
  f57_4 M t w best x121 x122 (IntKind.wrap .i64 (x123 + 1)) H16)))
  else
  (withP t fun i17 o18 =>
  (Heap.ld H i17 (o18 + 2)).bind fun c19 =>
  (C.elem 3 c19 best).bind fun q20 =>
  (Heap.ld H q20.1 (q20.2 + 1)).bind fun c21 =>
  (C.asI .i64 c21).bind fun n22 =>
  f57_1 M t w n22 H)) := by
  unfold f57_4 mrun; rw [run_eq]; kernel_rfl
-- stutter/simulate.walksErr
theorem f58_eq (M : Mach) (g_0 : Int) (g_1 : C) (g_2 : C) (l : C) (H : Heap) : f58 M g_0 g_1 g_2 l H =
  (f46 M g_0 g_1 g_2 H).bind fun q1 =>
  (V.asC q1.1).bind fun c2 =>
  (C.asI .i64 c2).bind fun n3 =>
  (C.len l).bind fun k4 =>
  (f43 M (decide (((k4 : Nat) : Int) ≤ 60)) 2 q1.2).bind fun q5 =>
  (V.asC q5.1).bind fun c6 =>
  (C.asI .i64 c6).bind fun n7 =>
  let H8 := Heap.alloc q5.2 (.cells 1 [(.int .i64 n3), (.int .i64 n7)])
  (f41 M (.slice q5.2.next 0 2) H8).bind fun q9 =>
  (V.asC q9.1).bind fun c10 =>
  (C.asI .i64 c10).bind fun n11 =>
  (if (!decide (n11 = 0)) = true then
  some ((.c (.int .i64 n11)), q9.2)
  else
  (C.len l).bind fun k12 =>
  f58_1 M g_0 g_1 g_2 l ((k12 : Nat) : Int) 0 q9.2) := by
  unfold f58 mrun; rw [run_eq]; kernel_rfl
theorem f58_1_eq (M : Mach) (g_0 : Int) (g_1 : C) (g_2 : C) (x21 : C) (x22 : Int) (x23 : Int) (H : Heap) : f58_1 M g_0 g_1 g_2 x21 x22 x23 H =
  (if (decide (x23 < x22)) = true then
  (C.elem 3 x21 x23).bind fun q1 =>
  (Heap.ld H q1.1 q1.2).bind fun c2 =>
  (C.asI .i64 c2).bind fun n3 =>
  (Heap.ld H q1.1 (q1.2 + 1)).bind fun c4 =>
  (Heap.ld H q1.1 ((q1.2 + 1) + 1)).bind fun c5 =>
  (C.asB c5).bind fun b6 =>
  (f55 M g_0 g_1 g_2 n3 c4 b6 H).bind fun q7 =>
  (V.ext q7.1 0).bind fun v8 =>
  (V.asC v8).bind fun c9 =>
  (C.asI .i64 c9).bind fun n10 =>
  (V.ext q7.1 1).bind fun v11 =>
  (V.asC v11).bind fun c12 =>
  (C.asI .i64 c12).bind fun n13 =>
  (if (!decide (n13 = 0)) = true then
  some ((.c (.int .i64 n13)), q7.2)
  else
  f58_1 M g_0 g_1 g_2 x21 x22 (IntKind.wrap .i64 (x23 + 1)) q7.2)
  else
  some ((.c (.int .i64 0)), H)) := by
  unfold f58_1 mrun; rw [run_eq]; kernel_rfl
-- stutter/simulate.coverage
theorem f59_eq (M : Mach) (g_0 : Int) (g_1 : C) (g_2 : C) (l : C) (H : Heap) : f59 M g_0 g_1 g_2 l H =
  (if 0 ≤ g_0 ∧ g_0 ≤ 2 ^ 36 then
  let H1 := Heap.alloc H (.cells 1 (List.replicate (Int.toNat g_0) [(.int .i64 0)]).flatten)
  (C.len g_2).bind fun k2 =>
  (if 0 ≤ ((k2 : Nat) : Int) ∧ ((k2 : Nat) : Int) ≤ 2 ^ 36 then
  let H3 := Heap.alloc H1 (.cells 1 (List.replicate (Int.toNat ((k2 : Nat) : Int)) [(.int .i64 0)]).flatten)
  (C.len l).bind fun k4 =>
  f59_1 M g_0 g_1 g_2 .nilSlice .nilSlice (.slice H.next 0 (Int.toNat g_0)) (.slice H1.next 0 (Int.toNat ((k2 : Nat) : Int))) l ((k4 : Nat) : Int) 0 H3
  else
  none)
  else
  none) := by
  unfold f59 mrun; rw [run_eq]; kernel_rfl
theorem f59_1_eq (M : Mach) (g_0 : Int) (g_1 : C) (g_2 : C) (x4_0 : C) (x4_1 : C) (out_0 : C) (out_1 : C) (x18 : C) (x19 : Int) (x20 : Int) (H : Heap) : f59_1 M g_0 g_1 g_2 x4_0 x4_1 out_0 out_1 x18 x19 x20 H =
  (if (decide (x20 < x19)) = true then
  (C.elem 3 x18 x20).bind fun q1 =>
  (Heap.ld H q1.1 q1.2).bind fun c2 =>
  (C.asI .i64 c2).bind fun n3 =>
  (Heap.ld H q1.1 (q1.2 + 1)).bind fun c4 =>
  (Heap.ld H q1.1 ((q1.2 + 1) + 1)).bind fun c5 =>
  (C.asB c5).bind fun b6 =>
  (C.elem 1 out_0 n3).bind fun q7 =>
  (Heap.ld H q7.1 q7.2).bind fun c8 =>
  (C.asI .i64 c8).bind fun n9 =>
  (C.elem 1 out_0 n3).bind fun q10 =>
  (Heap.st M.lim H q10.1 q10.2 [(.int .i64 (IntKind.wrap .i64 (n9 + 1)))]).bind fun H11 =>
  (C.len c4).bind fun k12 =>
  f59_2 M g_0 g_1 g_2 x4_0 x4_1 out_0 out_1 x18 x19 x20 c4 ((k12 : Nat) : Int) 0 H11
  else
  some ((.agg [out_0, out_1]), H)) := by
  unfold f59_1 mrun; rw [run_eq]; kernel_rfl
theorem f59_2_eq (M : Mach) (g_0 : Int) (g_1 : C) (g_2 : C) (x4_0 : C) (x4_1 : C) (out_0 : C) (out_1 : C) (x18 : C) (x19 : Int) (x20 : Int) (x33 : C) (x34 : Int) (x35 : Int) (H : Heap) : f59_2 M g_0 g_1 g_2 x4_0 x4_1 out_0 out_1 x18 x19 x20 x33 x34 x35 H =
  (if (decide (x35 < x34)) = true then
  (C.elem 1 x33 x35).bind fun q1 =>
  (Heap.ld H q1.1 q1.2).bind fun c2 =>
  (C.asI .i64 c2).bind fun n3 =>
  (C.elem 3 g_2 n3).bind fun q4 =>
  (Heap.ld H q4.1 (q4.2 + 1)).bind fun c5 =>
  (C.asI .i64 c5).bind fun n6 =>
  (C.elem 1 out_0 n6).bind fun q7 =>
  (Heap.ld H q7.1 q7.2).bind fun c8 =>
  (C.asI .i64 c8).bind fun n9 =>
  (C.elem 1 out_0 n6).bind fun q10 =>
  (Heap.st M.lim H q10.1 q10.2 [(.int .i64 (IntKind.wrap .i64 (n9 + 1)))]).bind fun H11 =>
  (C.elem 1 out_1 n3).bind fun q12 =>
  (Heap.ld H11 q12.1 q12.2).bind fun c13 =>
  (C.asI .i64 c13).bind fun n14 =>
  (C.elem 1 out_1 n3).bind fun q15 =>
  (Heap.st M.lim H11 q15.1 q15.2 [(.int .i64 (IntKind.wrap .i64 (n14 + 1)))]).bind fun H16 =>
  f59_2 M g_0 g_1 g_2 x4_0 x4_1 out_0 out_1 x18 x19 x20 x33 x34 (IntKind.wrap .i64 (x35 + 1)) H16
  else
  f59_1 M g_0 g_1 g_2 x4_0 x4_1 out_0 out_1 x18 x19 (IntKind.wrap .i64 (x20 + 1)) H) := by
  unfold f59_2 mrun; rw [run_eq]; kernel_rfl
-- slices.DeleteFunc[[]int,int]
theorem f60_eq (M : Mach) (s : C) (del : C) (H : Heap) : f60 M s del H =
  (f73 M s del H).bind fun q1 =>
  (V.asC q1.1).bind fun c2 =>
  (C.asI .i64 c2).bind fun n3 =>
  (if (decide (n3 = (-1))) = true then
  some ((.c s), q1.2)
  else
  f60_1 M s del n3 (IntKind.wrap .i64 (n3 + 1)) q1.2) := by
  unfold f60 mrun; rw [run_eq]; kernel_rfl
theorem f60_1_eq (M : Mach) (s : C) (del : C) (i : Int) (j : Int) (H : Heap) : f60_1 M s del i j H =
  (C.len s).bind fun k1 =>
  (if (decide (j < ((k1 : Nat) : Int))) = true then
  (C.elem 1 s j).bind fun q2 =>
  (Heap.ld H q2.1 q2.2).bind fun c3 =>
  (C.asI .i64 c3).bind fun n4 =>
  (C.asF del).bind fun g5 =>
  (mcall M g5.1 (g5.2.1.map .c ++ [(.c (.int .i64 n4))] ++ g5.2.2.map .c) H).bind fun q6 =>
  (V.asC q6.1).bind fun c7 =>
  (C.asB c7).bind fun b8 =>
  (if (!b8) = true then
  (C.elem 1 s i).bind fun q9 =>
  (Heap.st M.lim q6.2 q9.1 q9.2 [(.int .i64 n4)]).bind fun H10 =>
  f60_2 M s del (IntKind.wrap .i64 (i + 1)) j H10
  else
  f60_2 M s del i j q6.2)
  else
  (Heap.sub M.lim H 1 s i none).bind fun c11 =>
  (Heap.clr M.lim H [(.int .i64 0)] c11).bind fun H12 =>
  (Heap.sub M.lim H12 1 s 0 (some i)).bind fun c13 =>
  some ((.c c13), H12)) := by
  unfold f60_1 mrun; rw [run_eq]; kernel_rfl
theorem f60_2_eq (M : Mach) (s : C) (del : C) (i : Int) (j : Int) (H : Heap) : f60_2 M s del i j H =
  f60_1 M s del i (IntKind.wrap .i64 (j + 1)) H := by
  unfold f60_2 mrun; rw [run_eq]; kernel_rfl
-- stutter/simulate.UncoveredIn$1
theorem f61_eq (M : Mach) (i : Int) (x1 : C) (H : Heap) : f61 M i x1 H =
  (V.asP (.c x1)).bind fun a1 =>
  (Heap.ld H a1.1 a1.2).bind fun c2 =>
  (C.elem 1 c2 i).bind fun q3 =>
  (Heap.ld H q3.1 q3.2).bind fun c4 =>
  (C.asI .i64 c4).bind fun n5 =>
  some ((.c (.bool (decide (0 < n5)))), H) := by
  unfold f61 mrun; rw [run_eq]; kernel_rfl
-- stutter/simulate.graphErr$1
theorem f62_eq (M : Mach) (n : Int) (x1 : C) (H : Heap) : f62 M n x1 H =
  (V.asP (.c x1)).bind fun a1 =>
  (Heap.ld H a1.1 a1.2).bind fun c2 =>
  (C.asI .i64 c2).bind fun n3 =>
  (f44 M n 0 (IntKind.wrap .i64 (n3 - 1)) H).bind fun q4 =>
  (V.asC q4.1).bind fun c5 =>
  (C.asB c5).bind fun b6 =>
  some ((.c (.bool b6)), q4.2) := by
  unfold f62 mrun; rw [run_eq]; kernel_rfl
-- stutter/simulate.graphErr$2
theorem f63_eq (M : Mach) (a_0 : Int) (a_1 : Int) (a_2 : Int) (b_0 : Int) (b_1 : Int) (b_2 : Int) (H : Heap) : f63 M a_0 a_1 a_2 b_0 b_1 b_2 H =
  (f65 M a_0 b_0 H).bind fun q1 =>
  (V.asC q1.1).bind fun c2 =>
  (C.asI .i64 c2).bind fun n3 =>
  (f65 M a_1 b_1 q1.2).bind fun q4 =>
  (V.asC q4.1).bind fun c5 =>
  (C.asI .i64 c5).bind fun n6 =>
  (f65 M a_2 b_2 q4.2).bind fun q7 =>
  (V.asC q7.1).bind fun c8 =>
  (C.asI .i64 c8).bind fun n9 =>
  let H10 := Heap.alloc q7.2 (.cells 1 [(.int .i64 n3), (.int .i64 n6), (.int .i64 n9)])
  (f64 M (.slice q7.2.next 0 3) H10).bind fun q11 =>
  (V.asC q11.1).bind fun c12 =>
  (C.asI .i64 c12).bind fun n13 =>
  some ((.c (.int .i64 n13)), q11.2) := by
  unfold f63 mrun; rw [run_eq]; kernel_rfl
-- cmp.Or[int]
theorem f64_eq (M : Mach) (vals : C) (H : Heap) : f64 M vals H =
  (C.len vals).bind fun k1 =>
  f64_1 M 0 vals ((k1 : Nat) : Int) 0 H := by
  unfold f64 mrun; rw [run_eq]; kernel_rfl
theorem f64_1_eq (M : Mach) (zero : Int) (x6 : C) (x7 : Int) (x8 : Int) (H : Heap) : f64_1 M zero x6 x7 x8 H =
  (if (decide (x8 < x7)) = true then
  (C.elem 1 x6 x8).bind fun q1 =>
  (Heap.ld H q1.1 q1.2).bind fun c2 =>
  (C.asI .i64 c2).bind fun n3 =>
  (if (!decide (n3 = zero)) = true then
  some ((.c (.int .i64 n3)), H)
  else
  f64_1 M zero x6 x7 (IntKind.wrap .i64 (x8 + 1)) H)
  else
  some ((.c (.int .i64 zero)), H)) := by
  unfold f64_1 mrun; rw [run_eq]; kernel_rfl
-- cmp.Compare[int]
theorem f65_eq (M : Mach) (x : Int) (y : Int) (H : Heap) : f65 M x y H =
  (f74 M x H).bind fun q1 =>
  (V.asC q1.1).bind fun c2 =>
  (C.asB c2).bind fun b3 =>
  (f74 M y q1.2).bind fun q4 =>
  (V.asC q4.1).bind fun c5 =>
  (C.asB c5).bind fun b6 =>
  (if b3 = true then
  (if b6 = true then
  some ((.c (.int .i64 0)), q4.2)
  else
  some ((.c (.int .i64 (-1))), q4.2))
  else
  (if b6 = true then
  some ((.c (.int .i64 1)), q4.2)
  else
  (if (decide (x < y)) = true then
  some ((.c (.int .i64 (-1))), q4.2)
  else
  (if (decide (y < x)) = true then
  some ((.c (.int .i64 1)), q4.2)
  else
  some ((.c (.int .i64 0)), q4.2))))) := by
  unfold f65 mrun; rw [run_eq]; kernel_rfl
-- slices.Repeat[[]int,int]
theorem f66_eq (M : Mach) (x : C) (count : Int) (H : Heap) : f66 M x count H =
  (if (decide (count < 0)) = true then
  none
  else
  f66_1 M x count H) := by
  unfold f66 mrun; rw [run_eq]; kernel_rfl
theorem f66_1_eq (M : Mach) (x : C) (count : Int) (H : Heap) : f66_1 M x count H =
  (C.len x).bind fun k1 =>
  (f75 M (IntKind.wrap .u64 ((k1 : Nat) : Int)) (IntKind.wrap .u64 count) H).bind fun q2 =>
  (V.ext q2.1 0).bind fun v3 =>
  (V.asC v3).bind fun c4 =>
  (C.asI .u64 c4).bind fun n5 =>
  (V.ext q2.1 1).bind fun v6 =>
  (V.asC v6).bind fun c7 =>
  (C.asI .u64 c7).bind fun n8 =>
  (if (decide (0 < n5)) = false then
  some (decide (9223372036854775807 < n8), q2.2)
  else
  some (decide (0 < n5), q2.2)).bind fun q9 =>
  (if q9.1 = true then
  none
  else
  f66_2 M x n8 q9.2) := by
  unfold f66_1 mrun; rw [run_eq]; kernel_rfl
theorem f66_2_eq (M : Mach) (x : C) (lo : Int) (H : Heap) : f66_2 M x lo H =
  (if 0 ≤ (IntKind.wrap .i64 lo) ∧ (IntKind.wrap .i64 lo) ≤ 2 ^ 36 then
  let H1 := Heap.alloc H (.cells 1 (List.replicate (Int.toNat (IntKind.wrap .i64 lo)) [(.int .i64 0)]).flatten)
  (Heap.cellsOf H1 1 x).bind fun xs2 =>
  (C.len x).bind fun k3 =>
  (Heap.copy M.lim H1 1 (.slice H.next 0 (Int.toNat (IntKind.wrap .i64 lo))) xs2 k3).bind fun q4 =>
  f66_3 M (.slice H.next 0 (Int.toNat (IntKind.wrap .i64 lo))) ((q4.1 : Nat) : Int) q4.2
  else
  none) := by
  unfold f66_2 mrun; rw [run_eq]; kernel_rfl
theorem f66_3_eq (M : Mach) (newslice : C) (n : Int) (H : Heap) : f66_3 M newslice n H =
  (C.len newslice).bind fun k1 =>
  (if (decide (n < ((k1 : Nat) : Int))) = true then
  (Heap.sub M.lim H 1 newslice n none).bind fun c2 =>
  (Heap.sub M.lim H 1 newslice 0 (some n)).bind fun c3 =>
  (Heap.cellsOf H 1 c3).bind fun xs4 =>
  (C.len c3).bind fun k5 =>
  (Heap.copy M.lim H 1 c2 xs4 k5).bind fun q6 =>
  f66_3 M newslice (IntKind.wrap .i64 (n + ((q6.1 : Nat) : Int))) q6.2
  else
  some ((.c newslice), H)) := by
  unfold f66_3 mrun; rw [run_eq]; kernel_rfl
-- slices.Clone[[]int,int]
theorem f67_eq (M : Mach) (s : C) (H : Heap) : f67 M s H =
  (isNil .slice s).bind fun b1 =>
  (if (b1 != false) = true then
  some ((.c .nilSlice), H)
  else
  let H2 := Heap.alloc H (.cells 1 [])
  (Heap.cellsOf H2 1 s).bind fun xs3 =>
  (C.len s).bind fun k4 =>
  (Heap.app M.lim H2 1 (.slice H.next 0 0) xs3 k4).bind fun q5 =>
  some ((.c q5.1), q5.2)) := by
  unfold f67 mrun; rw [run_eq]; kernel_rfl
-- slices.Reverse[[]int,int]
theorem f68_eq (M : Mach) (s : C) (H : Heap) : f68 M s H =
  (C.len s).bind fun k1 =>
  f68_1 M s 0 (IntKind.wrap .i64 (((k1 : Nat) : Int) - 1)) H := by
  unfold f68 mrun; rw [run_eq]; kernel_rfl
theorem f68_1_eq (M : Mach) (s : C) (i : Int) (j : Int) (H : Heap) : f68_1 M s i j H =
  (if (decide (i < j)) = true then
  (C.elem 1 s j).bind fun q1 =>
  (Heap.ld H q1.1 q1.2).bind fun c2 =>
  (C.asI .i64 c2).bind fun n3 =>
  (C.elem 1 s i).bind fun q4 =>
  (Heap.ld H q4.1 q4.2).bind fun c5 =>
  (C.asI .i64 c5).bind fun n6 =>
  (C.elem 1 s i).bind fun q7 =>
  (Heap.st M.lim H q7.1 q7.2 [(.int .i64 n3)]).bind fun H8 =>
  (C.elem 1 s j).bind fun q9 =>
  (Heap.st M.lim H8 q9.1 q9.2 [(.int .i64 n6)]).bind fun H10 =>
  f68_1 M s (IntKind.wrap .i64 (i + 1)) (IntKind.wrap .i64 (j - 1)) H10
  else
  some ((.tuple []), H)) := by
  unfold f68_1 mrun; rw [run_eq]; kernel_rfl
-- stutter/stutterbase.One
theorem f69_eq (M : Mach) (is : Bool) (H : Heap) : f69 M is H =
  (if is = true then
  some ((.c (.int .i64 1)), H)
  else
  some ((.c (.int .i64 0)), H)) := by
  unfold f69 mrun; rw [run_eq]; kernel_rfl
-- slices.ContainsFunc[[]int,int]
theorem f70_eq (M : Mach) (s : C) (f : C) (H : Heap) : f70 M s f H =
  (f73 M s f H).bind fun q1 =>
  (V.asC q1.1).bind fun c2 =>
  (C.asI .i64 c2).bind fun n3 =>
  some ((.c (.bool (decide (0 ≤ n3)))), q1.2) := by
  unfold f70 mrun; rw [run_eq]; kernel_rfl
-- stutter/simulate.weightsErr$1
theorem f71_eq (M : Mach) (n : Int) (H : Heap) : f71 M n H =
  (f44 M n 0 100 H).bind fun q1 =>
  (V.asC q1.1).bind fun c2 =>
  (C.asB c2).bind fun b3 =>
  some ((.c (.bool (!b3))), q1.2) := by
  unfold f71 mrun; rw [run_eq]; kernel_rfl
-- slices.Contains[[]int,int]
theorem f72_eq (M : Mach) (s : C) (v : Int) (H : Heap) : f72 M s v H =
  (f76 M s v H).bind fun q1 =>
  (V.asC q1.1).bind fun c2 =>
  (C.asI .i64 c2).bind fun n3 =>
  some ((.c (.bool (decide (0 ≤ n3)))), q1.2) := by
  unfold f72 mrun; rw [run_eq]; kernel_rfl
-- slices.IndexFunc[[]int,int]
theorem f73_eq (M : Mach) (s : C) (f : C) (H : Heap) : f73 M s f H =
  (C.len s).bind fun k1 =>
  f73_1 M s f ((k1 : Nat) : Int) 0 H := by
  unfold f73 mrun; rw [run_eq]; kernel_rfl
theorem f73_1_eq (M : Mach) (s : C) (f : C) (x7 : Int) (x8 : Int) (H : Heap) : f73_1 M s f x7 x8 H =
  (if (decide (x8 < x7)) = true then
  (C.elem 1 s x8).bind fun q1 =>
  (Heap.ld H q1.1 q1.2).bind fun c2 =>
  (C.asI .i64 c2).bind fun n3 =>
  (C.asF f).bind fun g4 =>
  (mcall M g4.1 (g4.2.1.map .c ++ [(.c (.int .i64 n3))] ++ g4.2.2.map .c) H).bind fun q5 =>
  (V.asC q5.1).bind fun c6 =>
  (C.asB c6).bind fun b7 =>
  (if b7 = true then
  some ((.c (.int .i64 x8)), q5.2)
  else
  f73_1 M s f x7 (IntKind.wrap .i64 (x8 + 1)) q5.2)
  else
  some ((.c (.int .i64 (-1))), H)) := by
  unfold f73_1 mrun; rw [run_eq]; kernel_rfl
-- cmp.isNaN[int]
theorem f74_eq (M : Mach) (x : Int) (H : Heap) : f74 M x H =
  some ((.c (.bool (!decide (x = x)))), H) := by
  unfold f74 mrun; rw [run_eq]; kernel_rfl
-- math/bits.Mul
theorem f75_eq (M : Mach) (x : Int) (y : Int) (H : Heap) : f75 M x y H =
  (f78 M x y H).bind fun q1 =>
  (V.ext q1.1 0).bind fun v2 =>
  (V.asC v2).bind fun c3 =>
  (C.asI .u64 c3).bind fun n4 =>
  (V.ext q1.1 1).bind fun v5 =>
  (V.asC v5).bind fun c6 =>
  (C.asI .u64 c6).bind fun n7 =>
  some ((.tuple [(.c (.int .u64 n4)), (.c (.int .u64 n7))]), q1.2) := by
  unfold f75 mrun; rw [run_eq]; kernel_rfl
-- slices.Index[[]int,int]
theorem f76_eq (M : Mach) (s : C) (v : Int) (H : Heap) : f76 M s v H =
  (C.len s).bind fun k1 =>
  f76_1 M s v ((k1 : Nat) : Int) 0 H := by
  unfold f76 mrun; rw [run_eq]; kernel_rfl
theorem f76_1_eq (M : Mach) (s : C) (v : Int) (x7 : Int) (x8 : Int) (H : Heap) : f76_1 M s v x7 x8 H =
  (if (decide (x8 < x7)) = true then
  (C.elem 1 s x8).bind fun q1 =>
  (Heap.ld H q1.1 q1.2).bind fun c2 =>
  (C.asI .i64 c2).bind fun n3 =>
  (if (decide (v = n3)) = true then
  some ((.c (.int .i64 x8)), H)
  else
  f76_1 M s v x7 (IntKind.wrap .i64 (x8 + 1)) H)
  else
  some ((.c (.int .i64 (-1))), H)) := by
  unfold f76_1 mrun; rw [run_eq]; kernel_rfl
-- math/bits.Mul32
theorem f77_eq (M : Mach) (x : Int) (y : Int) (H : Heap) : f77 M x y H =
  some ((.tuple [(.c (.int .u32 (IntKind.wrap .u32 (shI .shr .u64 (IntKind.wrap .u64 ((IntKind.wrap .u64 x) * (IntKind.wrap .u64 y))) 32)))), (.c (.int .u32 (IntKind.wrap .u32 (IntKind.wrap .u64 ((IntKind.wrap .u64 x) * (IntKind.wrap .u64 y))))))]), H) := by
  unfold f77 mrun; rw [run_eq]; kernel_rfl
-- math/bits.Mul64
theorem f78_eq (M : Mach) (x : Int) (y : Int) (H : Heap) : f78 M x y H =
  some ((.tuple [(.c (.int .u64 (IntKind.wrap .u64 ((IntKind.wrap .u64 ((IntKind.wrap .u64 ((shI .shr .u64 x 32) * (shI .shr .u64 y 32))) + (shI .shr .u64 (IntKind.wrap .u64 ((IntKind.wrap .u64 ((shI .shr .u64 x 32) * (bitI .and .u64 y 4294967295))) + (shI .shr .u64 (IntKind.wrap .u64 ((bitI .and .u64 x 4294967295) * (bitI .and .u64 y 4294967295))) 32))) 32))) + (shI .shr .u64 (IntKind.wrap .u64 ((bitI .and .u64 (IntKind.wrap .u64 ((IntKind.wrap .u64 ((shI .shr .u64 x 32) * (bitI .and .u64 y 4294967295))) + (shI .shr .u64 (IntKind.wrap .u64 ((bitI .and .u64 x 4294967295) * (bitI .and .u64 y 4294967295))) 32))) 4294967295) + (IntKind.wrap .u64 ((bitI .and .u64 x 4294967295) * (shI .shr .u64 y 32))))) 32))))), (.c (.int .u64 (IntKind.wrap .u64 (x * y))))]), H) := by
  unfold f78 mrun; rw [run_eq]; kernel_rfl
end Go.Proofs.Ytnnjklkfcleleaa.R
