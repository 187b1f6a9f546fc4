import Derived.Test.YthjjbkiejkhjfaaRa
import Derived.Test.YthjjbkiejkhjfaaE9
import Derived.KernelRfl
namespace Go.Proofs.Ythjjbkiejkhjfaa.R
open Go Go.Proofs.Ythjjbkiejkhjfaa.Vm
set_option linter.unusedVariables false
set_option linter.unusedSimpArgs false
abbrev ks0 : List K0 := [(.int .i64), (.int .i64), (.int .i64), (.int .i64)]
abbrev ks1 : List K0 := [(.int .i64), .c, .c]
abbrev ks2 : List K0 := [(.int .i64), (.int .i64), (.int .i64)]
abbrev ks3 : List K0 := [.bool, .bool, .bool, .bool, .bool, .bool, .bool, .bool, .bool, .bool, .bool, .bool]
abbrev ks4 : List K0 := [.c, .c, .c, .c, .c, .c, .c, .c, .c, .c, .c, .c]
abbrev ks5 : List K0 := [.c, (.int .i64)]
abbrev ks6 : List K0 := [(.int .i64), (.int .i64), .c]
structure YM where
  ext : YCallT
def mdt : List (Nat × List RM) := [(3, [.sc]), (4, [.sc]), (5, [.sc]), (6, [.sc]), (7, [.sc]), (8, [.sc]), (9, [.sc]), (10, [.sc]), (11, [.sc]), (12, [.sc]), (13, [.va, .va]), (14, [.va]), (15, [.sls]), (16, [.sl]), (17, [.sc]), (18, [.sc]), (19, [.sc]), (20, [.sc]), (21, [.va, .va]), (22, [.sl]), (23, [.va, .va]), (24, [.va, .va]), (25, [.va, .va]), (26, [.sc]), (27, [.sc]), (28, [.sls]), (29, [.sls]), (30, [.va]), (31, [.va, .va]), (32, [.sls]), (33, [.va, .va]), (34, [.sc, .sc]), (35, [.sc]), (36, [.sl]), (37, [.sc]), (38, [.sc, .sc]), (39, [.sc]), (40, [.va, .va]), (41, [.sc]), (42, [.sls]), (43, [.sc]), (44, [.va, .va]), (45, [.sc]), (46, [.sc]), (47, [.va]), (48, [.sc]), (49, [.sc]), (50, [.sc]), (51, [.sc]), (52, [.va]), (53, [.va, .va]), (54, [.va]), (55, [.sc]), (56, [.sc]), (57, [.sls]), (58, [.sls]), (59, [.sls]), (60, [.sc]), (61, [.va]), (62, [.sls]), (63, [.sls]), (64, [.sc]), (65, [.sc]), (66, [.sc]), (67, [.va]), (68, [.sc]), (69, [.sc]), (70, [.sc, .sc]), (71, [.sls]), (72, [.sc]), (73, [.sc]), (74, [.sls]), (75, []), (76, [.va]), (77, [.sls]), (78, [.sc]), (79, [.sc]), (80, [.sc]), (81, [.va]), (82, [.sc]), (83, [.sc]), (84, [.sc]), (85, [.sc]), (86, [.va]), (87, [.va]), (88, [.sc]), (89, [.sls]), (90, [.sls]), (91, [.sc]), (92, [.sc]), (93, [.sc]), (94, [.va]), (95, [.sc]), (96, [.sc]), (97, [.sc]), (98, [.sc]), (99, [.sc]), (100, [.va]), (101, [.sc]), (102, [.sls]), (103, [.sc]), (104, [.sc]), (105, [.sc]), (106, [.va]), (107, [.sc]), (108, [.sc]), (109, [.sc]), (110, [.sc]), (111, [.sc, .sc])]
def md (f : FuncId) : List RM := (mdt.lookup f).getD []
def youts : List Nat := [10, 40, 44, 54, 61, 75, 76, 81, 87]
def yprog (f : FuncId) : Option RFunc := if youts.contains f then none else prog f
def yz (n : Nat) (l : List (Nat × Y)) : List Y := (List.range n).map fun p => (l.lookup p).getD .poison
noncomputable def yrunM (M : YM) : YRunT := Vm.yrun M.ext yprog md
noncomputable def ycall (M : YM) (f : FuncId) (us : List U) : YRs := yrunM M f 0 (us.map .val) []
-- stutter/stutterlaw19.ReduceGraphs
noncomputable def y4 (M : YM) (g_0 : Int) (g_1 : U) (g_2 : U) (c : U) : YRs := yrunM M 4 0 ([.val (.st [.c (.int .i64 g_0), g_1, g_2]), .val c]) []
-- stutter/stutterlaw19.few
noncomputable def y11 (M : YM) (g_0 : Int) (g_1 : U) (g_2 : U) : YRs := yrunM M 11 0 ([.val (.st [.c (.int .i64 g_0), g_1, g_2])]) []
-- stutter/stutterlaw19.brief
noncomputable def y12 (M : YM) (l : U) : YRs := yrunM M 12 0 ([.val l]) []
noncomputable def y12_1 (M : YM) (l : U) (i : Int) : YRs := yrunM M 12 1 (yz 19 [(0, .val l), (3, .val (.c (.int .i64 i)))]) []
-- stutter/stutterbase.OwnGraph
noncomputable def y14 (M : YM) (g_0 : Int) (g_1 : U) (g_2 : U) : YRs := yrunM M 14 0 ([.val (.st [.c (.int .i64 g_0), g_1, g_2])]) []
-- stutter/stutterbase.OwnInts
noncomputable def y15 (M : YM) (l : U) : YRs := yrunM M 15 0 ([.val l]) []
-- stutter/stutterbase.OwnLists
noncomputable def y16 (M : YM) (l : U) : YRs := yrunM M 16 0 ([.val l]) []
noncomputable def y16_1 (M : YM) (l : U) (i : Int) (out : Sx) : YRs := yrunM M 16 1 (yz 20 [(0, .val l), (3, .h 10000), (4, .val (.c (.int .i64 i)))]) [.sl out]
-- stutter/stutterref19.GraphErr
noncomputable def y17 (M : YM) (g_0 : Int) (g_1 : U) (g_2 : U) : YRs := yrunM M 17 0 ([.val (.st [.c (.int .i64 g_0), g_1, g_2])]) []
-- stutter/stutterref19.FormErr
noncomputable def y19 (M : YM) (g_0 : Int) (g_1 : U) (g_2 : U) (c : U) : YRs := yrunM M 19 0 ([.val (.st [.c (.int .i64 g_0), g_1, g_2]), .val c]) []
noncomputable def y19_1 (M : YM) (c : U) (g_0 : Int) (g_1 : U) (g_2 : U) (s : Int) : YRs := yrunM M 19 1 (yz 67 [(1, .val c), (2, .loc [.u (.c (.int .i64 g_0)), .u g_1, .u g_2]), (5, .val (.c (.int .i64 s)))]) []
noncomputable def y19_2 (M : YM) (c : U) (g_0 : Int) (g_1 : U) (g_2 : U) (s : Int) (i : Int) : YRs := yrunM M 19 2 (yz 67 [(1, .val c), (2, .loc [.u (.c (.int .i64 g_0)), .u g_1, .u g_2]), (5, .val (.c (.int .i64 s))), (6, .val (.c (.int .i64 i)))]) []
noncomputable def y19_3 (M : YM) (c : U) (g_0 : Int) (g_1 : U) (g_2 : U) (s : Int) (i : Int) (l : Sx) : YRs := yrunM M 19 3 (yz 67 [(1, .val c), (2, .loc [.u (.c (.int .i64 g_0)), .u g_1, .u g_2]), (5, .val (.c (.int .i64 s))), (7, .h 10000), (8, .val (.c (.int .i64 i)))]) [.sl l]
-- stutter/reduce.ReducedBy
noncomputable def y23 (M : YM) (x_0 : Int) (x_1 : U) (x_2 : U) (c : U) : YRs := yrunM M 23 0 ([.val (.st [.c (.int .i64 x_0), x_1, x_2]), .val c]) []
noncomputable def y23_1 (M : YM) (c : U) (x4_0 : Int) (out_0 : Int) (x31 : U) (x32 : Int) (x33 : Int) (x4_1 : Sx) (x4_2 : Sx) (out_1 : Sx) (out_2 : Sx) : YRs := yrunM M 23 1 (yz 53 [(1, .val c), (4, .loc [.u (.c (.int .i64 x4_0)), .h 10000, .h 10001]), (8, .loc [.u (.c (.int .i64 out_0)), .h 10002, .h 10003]), (31, .val x31), (32, .val (.c (.int .i64 x32))), (33, .val (.c (.int .i64 x33)))]) [.sl x4_1, .sl x4_2, .sl out_1, .sl out_2]
noncomputable def y23_2 (M : YM) (c : U) (x4_0 : Int) (out_0 : Int) (x31 : U) (x32 : Int) (x33 : Int) (x4_1 : Sx) (x4_2 : Sx) (out_1 : Sx) (out_2 : Sx) : YRs := yrunM M 23 2 (yz 53 [(1, .val c), (4, .loc [.u (.c (.int .i64 x4_0)), .h 10000, .h 10001]), (8, .loc [.u (.c (.int .i64 out_0)), .h 10002, .h 10003]), (31, .val x31), (32, .val (.c (.int .i64 x32))), (33, .val (.c (.int .i64 x33)))]) [.sl x4_1, .sl x4_2, .sl out_1, .sl out_2]
-- stutter/reduce.ReachedIn
noncomputable def y24 (M : YM) (x_0 : Int) (x_1 : U) (x_2 : U) : YRs := yrunM M 24 0 ([.val (.st [.c (.int .i64 x_0), x_1, x_2])]) []
-- stutter/reduce.DeadlocksIn
noncomputable def y25 (M : YM) (x_0 : Int) (x_1 : U) (x_2 : U) : YRs := yrunM M 25 0 ([.val (.st [.c (.int .i64 x_0), x_1, x_2])]) []
-- stutter/stutterbase.SameGraph
noncomputable def y26 (M : YM) (a_0 : Int) (a_1 : U) (a_2 : U) (b_0 : Int) (b_1 : U) (b_2 : U) : YRs := yrunM M 26 0 ([.val (.st [.c (.int .i64 a_0), a_1, a_2]), .val (.st [.c (.int .i64 b_0), b_1, b_2])]) []
noncomputable def y26_1 (M : YM) (a_0 : Int) (a_1 : U) (a_2 : U) (b_0 : Int) (b_1 : U) (b_2 : U) (i : Int) : YRs := yrunM M 26 1 (yz 46 [(2, .loc [.u (.c (.int .i64 a_0)), .u a_1, .u a_2]), (3, .loc [.u (.c (.int .i64 b_0)), .u b_1, .u b_2]), (5, .val (.c (.int .i64 i)))]) []
-- stutter/stutterbase.EqualInts
noncomputable def y27 (M : YM) (a : U) (b : U) : YRs := yrunM M 27 0 ([.val a, .val b]) []
noncomputable def y27_1 (M : YM) (a : U) (b : U) (i : Int) : YRs := yrunM M 27 1 (yz 26 [(0, .val a), (1, .val b), (5, .val (.c (.int .i64 i)))]) []
-- stutter/stutterref19.Reached
noncomputable def y28 (M : YM) (g_0 : Int) (g_1 : U) (g_2 : U) : YRs := yrunM M 28 0 ([.val (.st [.c (.int .i64 g_0), g_1, g_2])]) []
noncomputable def y28_1 (M : YM) (g_0 : Int) (g_1 : U) (g_2 : U) (i : Int) (seen : Sx) : YRs := yrunM M 28 1 (yz 82 [(1, .loc [.u (.c (.int .i64 g_0)), .u g_1, .u g_2]), (3, .h 10000), (4, .val (.c (.int .i64 i)))]) [.sl seen]
noncomputable def y28_2 (M : YM) (g_0 : Int) (g_1 : U) (g_2 : U) (k : Int) (seen : Sx) : YRs := yrunM M 28 2 (yz 82 [(1, .loc [.u (.c (.int .i64 g_0)), .u g_1, .u g_2]), (3, .h 10000), (5, .val (.c (.int .i64 k)))]) [.sl seen]
noncomputable def y28_3 (M : YM) (g_0 : Int) (g_1 : U) (g_2 : U) (k : Int) (i : Int) (seen : Sx) : YRs := yrunM M 28 3 (yz 82 [(1, .loc [.u (.c (.int .i64 g_0)), .u g_1, .u g_2]), (3, .h 10000), (5, .val (.c (.int .i64 k))), (6, .val (.c (.int .i64 i)))]) [.sl seen]
noncomputable def y28_4 (M : YM) (g_0 : Int) (g_1 : U) (g_2 : U) (s : Int) (seen : Sx) (out : Sx) : YRs := yrunM M 28 4 (yz 82 [(1, .loc [.u (.c (.int .i64 g_0)), .u g_1, .u g_2]), (3, .h 10000), (7, .h 10001), (8, .val (.c (.int .i64 s)))]) [.sl seen, .sl out]
noncomputable def y28_5 (M : YM) (g_0 : Int) (g_1 : U) (g_2 : U) (s : Int) (seen : Sx) (out : Sx) : YRs := yrunM M 28 5 (yz 82 [(1, .loc [.u (.c (.int .i64 g_0)), .u g_1, .u g_2]), (3, .h 10000), (7, .h 10001), (8, .val (.c (.int .i64 s)))]) [.sl seen, .sl out]
-- stutter/stutterref19.Deadlocks
noncomputable def y29 (M : YM) (g_0 : Int) (g_1 : U) (g_2 : U) : YRs := yrunM M 29 0 ([.val (.st [.c (.int .i64 g_0), g_1, g_2])]) []
noncomputable def y29_1 (M : YM) (g_0 : Int) (g_1 : U) (g_2 : U) (i : Int) (l : Sx) (out : Sx) : YRs := yrunM M 29 1 (yz 30 [(1, .loc [.u (.c (.int .i64 g_0)), .u g_1, .u g_2]), (3, .h 10000), (4, .h 10001), (5, .val (.c (.int .i64 i)))]) [.sl l, .sl out]
noncomputable def y29_2 (M : YM) (g_0 : Int) (g_1 : U) (g_2 : U) (i : Int) (l : Sx) (out : Sx) : YRs := yrunM M 29 2 (yz 30 [(1, .loc [.u (.c (.int .i64 g_0)), .u g_1, .u g_2]), (3, .h 10000), (4, .h 10001), (5, .val (.c (.int .i64 i)))]) [.sl l, .sl out]
-- stutter/stutterref19.Reduced
noncomputable def y30 (M : YM) (g_0 : Int) (g_1 : U) (g_2 : U) (c : U) : YRs := yrunM M 30 0 ([.val (.st [.c (.int .i64 g_0), g_1, g_2]), .val c]) []
noncomputable def y30_1 (M : YM) (c : U) (g_0 : Int) (g_1 : U) (g_2 : U) (x4_0 : Int) (out_0 : Int) (i : Int) (x4_1 : Sx) (x4_2 : Sx) (out_1 : Sx) (out_2 : Sx) : YRs := yrunM M 30 1 (yz 47 [(1, .val c), (2, .loc [.u (.c (.int .i64 g_0)), .u g_1, .u g_2]), (4, .loc [.u (.c (.int .i64 x4_0)), .h 10000, .h 10001]), (5, .loc [.u (.c (.int .i64 out_0)), .h 10002, .h 10003]), (6, .val (.c (.int .i64 i)))]) [.sl x4_1, .sl x4_2, .sl out_1, .sl out_2]
noncomputable def y30_2 (M : YM) (c : U) (g_0 : Int) (g_1 : U) (g_2 : U) (x4_0 : Int) (out_0 : Int) (i : Int) (x4_1 : Sx) (x4_2 : Sx) (out_1 : Sx) (out_2 : Sx) : YRs := yrunM M 30 2 (yz 47 [(1, .val c), (2, .loc [.u (.c (.int .i64 g_0)), .u g_1, .u g_2]), (4, .loc [.u (.c (.int .i64 x4_0)), .h 10000, .h 10001]), (5, .loc [.u (.c (.int .i64 out_0)), .h 10002, .h 10003]), (6, .val (.c (.int .i64 i)))]) [.sl x4_1, .sl x4_2, .sl out_1, .sl out_2]
-- stutter/stutterbase.Between
noncomputable def y37 (M : YM) (n : Int) (low : Int) (high : Int) : YRs := yrunM M 37 0 ([.val (.c (.int .i64 n)), .val (.c (.int .i64 low)), .val (.c (.int .i64 high))]) []
-- stutter/stutterbase.Holds
noncomputable def y39 (M : YM) (l : U) (n : Int) : YRs := yrunM M 39 0 ([.val l, .val (.c (.int .i64 n))]) []
noncomputable def y39_1 (M : YM) (l : U) (n : Int) (i : Int) : YRs := yrunM M 39 1 (yz 18 [(0, .val l), (1, .val (.c (.int .i64 n))), (5, .val (.c (.int .i64 i)))]) []
-- stutter/stutterref19.Enabled
noncomputable def y42 (M : YM) (g_0 : Int) (g_1 : U) (g_2 : U) (s : Int) : YRs := yrunM M 42 0 ([.val (.st [.c (.int .i64 g_0), g_1, g_2]), .val (.c (.int .i64 s))]) []
noncomputable def y42_1 (M : YM) (s : Int) (g_0 : Int) (g_1 : U) (g_2 : U) (a : Int) (out : Sx) : YRs := yrunM M 42 1 (yz 22 [(1, .val (.c (.int .i64 s))), (2, .loc [.u (.c (.int .i64 g_0)), .u g_1, .u g_2]), (5, .h 10000), (6, .val (.c (.int .i64 a)))]) [.sl out]
noncomputable def y42_2 (M : YM) (s : Int) (g_0 : Int) (g_1 : U) (g_2 : U) (a : Int) (out : Sx) : YRs := yrunM M 42 2 (yz 22 [(1, .val (.c (.int .i64 s))), (2, .loc [.u (.c (.int .i64 g_0)), .u g_1, .u g_2]), (5, .h 10000), (6, .val (.c (.int .i64 a)))]) [.sl out]
-- stutter/reduce.graphErr
noncomputable def y48 (M : YM) (g_0 : Int) (g_1 : U) (g_2 : U) : YRs := yrunM M 48 0 ([.val (.st [.c (.int .i64 g_0), g_1, g_2])]) []
noncomputable def y48_1 (M : YM) (g_0 : Int) (g_1 : U) (g_2 : U) (x18 : U) (x19 : Int) (x20 : Int) : YRs := yrunM M 48 1 (yz 96 [(1, .loc [.u (.c (.int .i64 g_0)), .u g_1, .u g_2]), (18, .val x18), (19, .val (.c (.int .i64 x19))), (20, .val (.c (.int .i64 x20)))]) []
noncomputable def y48_2 (M : YM) (g_0 : Int) (g_1 : U) (g_2 : U) (x47 : U) (x48 : Int) (x49 : Int) : YRs := yrunM M 48 2 (yz 96 [(1, .loc [.u (.c (.int .i64 g_0)), .u g_1, .u g_2]), (47, .val x47), (48, .val (.c (.int .i64 x48))), (49, .val (.c (.int .i64 x49)))]) []
-- stutter/reduce.choiceErr
noncomputable def y51 (M : YM) (x_0 : Int) (x_1 : U) (x_2 : U) (c : U) : YRs := yrunM M 51 0 ([.val (.st [.c (.int .i64 x_0), x_1, x_2]), .val c]) []
noncomputable def y51_1 (M : YM) (g : U) (x18 : U) (x19 : Int) (x20 : Int) : YRs := yrunM M 51 1 (yz 65 [(5, .val g), (18, .val x18), (19, .val (.c (.int .i64 x19))), (20, .val (.c (.int .i64 x20)))]) []
noncomputable def y51_2 (M : YM) (g : U) (s : Int) (vset : U) (i : Int) (x18 : U) (x19 : Int) (x20 : Int) : YRs := yrunM M 51 2 (yz 65 [(5, .val g), (6, .val (.c (.int .i64 s))), (7, .val vset), (8, .val (.c (.int .i64 i))), (18, .val x18), (19, .val (.c (.int .i64 x19))), (20, .val (.c (.int .i64 x20)))]) []
noncomputable def y51_3 (M : YM) (g : U) (s : Int) (x18 : U) (x19 : Int) (x20 : Int) (x41 : U) (x42 : Int) (x43 : Int) : YRs := yrunM M 51 3 (yz 65 [(5, .val g), (6, .val (.c (.int .i64 s))), (18, .val x18), (19, .val (.c (.int .i64 x19))), (20, .val (.c (.int .i64 x20))), (41, .val x41), (42, .val (.c (.int .i64 x42))), (43, .val (.c (.int .i64 x43)))]) []
-- stutter/stutterbase.IsGraph
noncomputable def y55 (M : YM) (g_0 : Int) (g_1 : U) (g_2 : U) : YRs := yrunM M 55 0 ([.val (.st [.c (.int .i64 g_0), g_1, g_2])]) []
noncomputable def y55_1 (M : YM) (g_0 : Int) (g_1 : U) (g_2 : U) (i : Int) : YRs := yrunM M 55 1 (yz 110 [(1, .loc [.u (.c (.int .i64 g_0)), .u g_1, .u g_2]), (3, .val (.c (.int .i64 i)))]) []
noncomputable def y55_2 (M : YM) (g_0 : Int) (g_1 : U) (g_2 : U) (i : Int) : YRs := yrunM M 55 2 (yz 110 [(1, .loc [.u (.c (.int .i64 g_0)), .u g_1, .u g_2]), (4, .val (.c (.int .i64 i)))]) []
-- slices.Clone[[]int,int]
noncomputable def y59 (M : YM) (s : U) : YRs := yrunM M 59 0 ([.val s]) []
-- slices.Contains[[]int,int]
noncomputable def y60 (M : YM) (s : U) (v : Int) : YRs := yrunM M 60 0 ([.val s, .val (.c (.int .i64 v))]) []
-- (*stutter/reduce.graph).reached
noncomputable def y62 (M : YM) (g : U) : YRs := yrunM M 62 0 ([.val g]) []
noncomputable def y62_1 (M : YM) (g : U) (out : Sx) (vopen : Sx) : YRs := yrunM M 62 1 (yz 67 [(0, .val g), (3, .h 10000), (4, .h 10001)]) [.sl out, .sl vopen]
noncomputable def y62_2 (M : YM) (g : U) (x47 : U) (x48 : Int) (x49 : Int) (out : Sx) (vopen : Sx) : YRs := yrunM M 62 2 (yz 67 [(0, .val g), (3, .h 10000), (4, .h 10001), (47, .val x47), (48, .val (.c (.int .i64 x48))), (49, .val (.c (.int .i64 x49)))]) [.sl out, .sl vopen]
-- stutter/reduce.chosen
noncomputable def y63 (M : YM) (n : Int) (holds : U) : YRs := yrunM M 63 0 ([.val (.c (.int .i64 n)), .val holds]) []
noncomputable def y63_1 (M : YM) (holds : U) (x7 : Int) (x8 : Int) (out : Sx) : YRs := yrunM M 63 1 (yz 20 [(1, .val holds), (5, .h 10000), (7, .val (.c (.int .i64 x7))), (8, .val (.c (.int .i64 x8)))]) [.sl out]
noncomputable def y63_2 (M : YM) (holds : U) (x7 : Int) (x8 : Int) (out : Sx) : YRs := yrunM M 63 2 (yz 20 [(1, .val holds), (5, .h 10000), (7, .val (.c (.int .i64 x7))), (8, .val (.c (.int .i64 x8)))]) [.sl out]
-- stutter/reduce.ReachedIn$1
noncomputable def y64 (M : YM) (s : Int) (x1 : U) : YRs := yrunM M 64 0 ([.val (.c (.int .i64 s)), .val x1]) []
-- stutter/reduce.DeadlocksIn$1
noncomputable def y65 (M : YM) (s : Int) (x1 : U) (x2 : U) : YRs := yrunM M 65 0 ([.val (.c (.int .i64 s)), .val x1, .val x2]) []
-- stutter/reduce.unless
noncomputable def y68 (M : YM) (holds : Bool) (e : Int) : YRs := yrunM M 68 0 ([.val (.c (.bool holds)), .val (.c (.int .i64 e))]) []
-- stutter/reduce.in
noncomputable def y69 (M : YM) (n : Int) (lo : Int) (hi : Int) : YRs := yrunM M 69 0 ([.val (.c (.int .i64 n)), .val (.c (.int .i64 lo)), .val (.c (.int .i64 hi))]) []
-- stutter/stutterref19.steps
noncomputable def y71 (M : YM) (g_0 : Int) (g_1 : U) (g_2 : U) (s : Int) (a : Int) : YRs := yrunM M 71 0 ([.val (.st [.c (.int .i64 g_0), g_1, g_2]), .val (.c (.int .i64 s)), .val (.c (.int .i64 a))]) []
noncomputable def y71_1 (M : YM) (s : Int) (a : Int) (g_0 : Int) (g_1 : U) (g_2 : U) (i : Int) (out : Sx) : YRs := yrunM M 71 1 (yz 39 [(1, .val (.c (.int .i64 s))), (2, .val (.c (.int .i64 a))), (3, .loc [.u (.c (.int .i64 g_0)), .u g_1, .u g_2]), (7, .h 10000), (8, .val (.c (.int .i64 i)))]) [.sl out]
noncomputable def y71_2 (M : YM) (s : Int) (a : Int) (g_0 : Int) (g_1 : U) (g_2 : U) (i : Int) (out : Sx) : YRs := yrunM M 71 2 (yz 39 [(1, .val (.c (.int .i64 s))), (2, .val (.c (.int .i64 a))), (3, .loc [.u (.c (.int .i64 g_0)), .u g_1, .u g_2]), (7, .h 10000), (8, .val (.c (.int .i64 i)))]) [.sl out]
-- stutter/reduce.steps
noncomputable def y78 (M : YM) (a_0 : Int) (a_1 : Int) (a_2 : Int) (b_0 : Int) (b_1 : Int) (b_2 : Int) : YRs := yrunM M 78 0 ([.val (.st [.c (.int .i64 a_0), .c (.int .i64 a_1), .c (.int .i64 a_2)]), .val (.st [.c (.int .i64 b_0), .c (.int .i64 b_1), .c (.int .i64 b_2)])]) []
-- stutter/stutterbase.FirstInts
noncomputable def y88 (M : YM) (a : U) (b : U) : YRs := yrunM M 88 0 ([.val a, .val b]) []
noncomputable def y88_1 (M : YM) (a : U) (b : U) (i : Int) : YRs := yrunM M 88 1 (yz 52 [(0, .val a), (1, .val b), (5, .val (.c (.int .i64 i)))]) []
-- stutter/stutterbase.edgeInts
noncomputable def y89 (M : YM) (x_0 : Int) (x_1 : Int) (x_2 : Int) : YRs := yrunM M 89 0 ([.val (.st [.c (.int .i64 x_0), .c (.int .i64 x_1), .c (.int .i64 x_2)])]) []
-- slices.Index[[]int,int]
noncomputable def y92 (M : YM) (s : U) (v : Int) : YRs := yrunM M 92 0 ([.val s, .val (.c (.int .i64 v))]) []
noncomputable def y92_1 (M : YM) (s : U) (v : Int) (x7 : Int) (x8 : Int) : YRs := yrunM M 92 1 (yz 19 [(0, .val s), (1, .val (.c (.int .i64 v))), (7, .val (.c (.int .i64 x7))), (8, .val (.c (.int .i64 x8)))]) []
-- cmp.Or[int]
noncomputable def y97 (M : YM) (vals : U) : YRs := yrunM M 97 0 ([.val vals]) []
noncomputable def y97_1 (M : YM) (zero : Int) (x6 : U) (x7 : Int) (x8 : Int) : YRs := yrunM M 97 1 (yz 18 [(3, .val (.c (.int .i64 zero))), (6, .val x6), (7, .val (.c (.int .i64 x7))), (8, .val (.c (.int .i64 x8)))]) []
-- cmp.Compare[int]
noncomputable def y98 (M : YM) (x : Int) (y : Int) : YRs := yrunM M 98 0 ([.val (.c (.int .i64 x)), .val (.c (.int .i64 y))]) []
-- stutter/stutterbase.One
noncomputable def y107 (M : YM) (is : Bool) : YRs := yrunM M 107 0 ([.val (.c (.bool is))]) []
-- cmp.isNaN[int]
noncomputable def y110 (M : YM) (x : Int) : YRs := yrunM M 110 0 ([.val (.c (.int .i64 x))]) []
-- stutter/stutterlaw19.awake (outside)
noncomputable def y10 (M : YM) : YRs := yrunM M 10 0 [] []
-- stutter/reduce.open (outside)
noncomputable def y61 (M : YM) (g_0 : Int) (g_1 : U) (g_2 : U) : YRs := yrunM M 61 0 [.val (.st [.c (.int .i64 g_0), g_1, g_2])] []
-- stutter/stutterlaw19.ReduceGraphs
theorem y4_eq (M : YM) (g_0 : Int) (g_1 : U) (g_2 : U) (c : U) : y4 M g_0 g_1 g_2 c =
  (y10 M).bind fun r1 =>
  (Rz.toU r1).bind fun u2 =>
  (U.asB u2).bind fun b3 =>
  (if (!b3) = true then
  some (.val (.c (.bool false)))
  else
  (y11 M g_0 g_1 g_2).bind fun r4 =>
  (Rz.toU r4).bind fun u5 =>
  (U.asB u5).bind fun b6 =>
  (if (!b6) = false then
  (y12 M c).bind fun r7 =>
  (Rz.toU r7).bind fun u8 =>
  (U.asB u8).bind fun b9 =>
  some (!b9)
  else
  some (!b6)).bind fun q10 =>
  (if q10 = true then
  some (.val (.c (.bool true)))
  else
  (y14 M g_0 g_1 g_2).bind fun r11 =>
  (Rz.toU r11).bind fun u12 =>
  (U.exact u12 ks1).bind fun f13 =>
  (y16 M c).bind fun r14 =>
  (Rz.asSl r14).bind fun s15 =>
  (y23 M ((f13 0).i) (f13 1) (f13 2) (Sx.fz s15)).bind fun r16 =>
  (Rz.asTup r16).bind fun t17 =>
  (t17[0]?).bind fun u18 =>
  (U.exact u18 ks1).bind fun f19 =>
  (t17[1]?).bind fun u20 =>
  (U.asI .i64 u20).bind fun n21 =>
  (y14 M g_0 g_1 g_2).bind fun r22 =>
  (Rz.toU r22).bind fun u23 =>
  (U.exact u23 ks1).bind fun f24 =>
  (y24 M ((f24 0).i) (f24 1) (f24 2)).bind fun r25 =>
  (Rz.asTup r25).bind fun t26 =>
  (t26[0]?).bind fun u27 =>
  (U.one u27).bind fun u28 =>
  (t26[1]?).bind fun u29 =>
  (U.asI .i64 u29).bind fun n30 =>
  (y14 M g_0 g_1 g_2).bind fun r31 =>
  (Rz.toU r31).bind fun u32 =>
  (U.exact u32 ks1).bind fun f33 =>
  (y25 M ((f33 0).i) (f33 1) (f33 2)).bind fun r34 =>
  (Rz.asTup r34).bind fun t35 =>
  (t35[0]?).bind fun u36 =>
  (U.one u36).bind fun u37 =>
  (t35[1]?).bind fun u38 =>
  (U.asI .i64 u38).bind fun n39 =>
  (y17 M g_0 g_1 g_2).bind fun r40 =>
  (Rz.toU r40).bind fun u41 =>
  (U.asI .i64 u41).bind fun n42 =>
  (if (!decide (n42 = 0)) = true then
  (if (decide (n21 = n42)) = true then
  some (decide (n30 = n42))
  else
  some (decide (n21 = n42))).bind fun q43 =>
  (if q43 = true then
  some (decide (n39 = n42))
  else
  some q43).bind fun q44 =>
  (if q44 = true then
  (y26 M ((f19 0).i) (f19 1) (f19 2) 0 (Sx.fz (⟨false, 0, []⟩ : Sx)) (Sx.fz (⟨false, 0, []⟩ : Sx))).bind fun r45 =>
  (Rz.toU r45).bind fun u46 =>
  (U.asB u46).bind fun b47 =>
  some b47
  else
  some q44).bind fun q48 =>
  (if q48 = true then
  (U.len u28).bind fun k49 =>
  (U.len u37).bind fun k50 =>
  some (decide ((IntKind.wrap .i64 (((k49 : Nat) : Int) + ((k50 : Nat) : Int))) = 0))
  else
  some q48).bind fun q51 =>
  some (.val (.c (.bool q51)))
  else
  (if (!decide (n30 = 0)) = false then
  (y28 M g_0 g_1 g_2).bind fun r52 =>
  (Rz.asSl r52).bind fun s53 =>
  (y27 M u28 (Sx.fz s53)).bind fun r54 =>
  (Rz.toU r54).bind fun u55 =>
  (U.asB u55).bind fun b56 =>
  some (!b56)
  else
  some (!decide (n30 = 0))).bind fun q57 =>
  (if q57 = false then
  some (!decide (n39 = 0))
  else
  some q57).bind fun q58 =>
  (if q58 = false then
  (y29 M g_0 g_1 g_2).bind fun r59 =>
  (Rz.asSl r59).bind fun s60 =>
  (y27 M u37 (Sx.fz s60)).bind fun r61 =>
  (Rz.toU r61).bind fun u62 =>
  (U.asB u62).bind fun b63 =>
  some (!b63)
  else
  some q58).bind fun q64 =>
  (if q64 = true then
  some (.val (.c (.bool false)))
  else
  (y19 M g_0 g_1 g_2 c).bind fun r65 =>
  (Rz.toU r65).bind fun u66 =>
  (U.asI .i64 u66).bind fun n67 =>
  (if (!decide (n67 = 0)) = true then
  (if (decide (n21 = n67)) = true then
  (y26 M ((f19 0).i) (f19 1) (f19 2) 0 (Sx.fz (⟨false, 0, []⟩ : Sx)) (Sx.fz (⟨false, 0, []⟩ : Sx))).bind fun r68 =>
  (Rz.toU r68).bind fun u69 =>
  (U.asB u69).bind fun b70 =>
  some b70
  else
  some (decide (n21 = n67))).bind fun q71 =>
  some (.val (.c (.bool q71)))
  else
  (if (decide (n21 = 0)) = true then
  (y30 M g_0 g_1 g_2 c).bind fun r72 =>
  (Rz.toU r72).bind fun u73 =>
  (U.exact u73 ks1).bind fun f74 =>
  (y26 M ((f19 0).i) (f19 1) (f19 2) ((f74 0).i) (f74 1) (f74 2)).bind fun r75 =>
  (Rz.toU r75).bind fun u76 =>
  (U.asB u76).bind fun b77 =>
  some b77
  else
  some (decide (n21 = 0))).bind fun q78 =>
  some (.val (.c (.bool q78)))))))) := by
  unfold y4 yrunM; rw [yrun_eq]; kernel_rfl
-- stutter/stutterlaw19.few
theorem y11_eq (M : YM) (g_0 : Int) (g_1 : U) (g_2 : U) : y11 M g_0 g_1 g_2 =
  (if (decide (g_0 ≤ 8)) = false then
  some (decide (60 < g_0))
  else
  some (decide (g_0 ≤ 8))).bind fun q1 =>
  (if q1 = true then
  (U.len g_1).bind fun k2 =>
  some (decide (((k2 : Nat) : Int) ≤ 70))
  else
  some q1).bind fun q3 =>
  (if q3 = true then
  (U.len g_2).bind fun k4 =>
  some (decide (((k4 : Nat) : Int) ≤ 30))
  else
  some q3).bind fun q5 =>
  some (.val (.c (.bool q5))) := by
  unfold y11 yrunM; rw [yrun_eq]; kernel_rfl
-- stutter/stutterlaw19.brief
theorem y12_eq (M : YM) (l : U) : y12 M l =
  (U.len l).bind fun k1 =>
  (if (decide (62 < ((k1 : Nat) : Int))) = true then
  some (.val (.c (.bool false)))
  else
  y12_1 M l 0) := by
  unfold y12 yrunM; rw [yrun_eq]; kernel_rfl
theorem y12_1_eq (M : YM) (l : U) (i : Int) : y12_1 M l i =
  (U.len l).bind fun k1 =>
  (if (decide (i < ((k1 : Nat) : Int))) = true then
  (U.idx 1 l i).bind fun v2 =>
  (U.cell v2 0).bind fun c3 =>
  (U.len c3).bind fun k4 =>
  (if (decide (14 < ((k4 : Nat) : Int))) = true then
  some (.val (.c (.bool false)))
  else
  y12_1 M l (IntKind.wrap .i64 (i + 1)))
  else
  some (.val (.c (.bool true)))) := by
  unfold y12_1 yrunM; rw [yrun_eq]; kernel_rfl
-- stutter/stutterbase.OwnGraph
theorem y14_eq (M : YM) (g_0 : Int) (g_1 : U) (g_2 : U) : y14 M g_0 g_1 g_2 =
  (y15 M g_1).bind fun r1 =>
  (Rz.asSl r1).bind fun s2 =>
  (U.asL g_2).bind fun l3 =>
  (Sx.app (⟨true, 3, []⟩ : Sx) 3 l3.2).bind fun s4 =>
  some (.val (.st [.c (.int .i64 g_0), Sx.fz s2, Sx.fz s4])) := by
  unfold y14 yrunM; rw [yrun_eq]; kernel_rfl
-- stutter/stutterbase.OwnInts
theorem y15_eq (M : YM) (l : U) : y15 M l =
  (U.asL l).bind fun l1 =>
  (Sx.app (⟨true, 1, []⟩ : Sx) 1 l1.2).bind fun s2 =>
  (if scals s2.es = true then
  some (.sl s2)
  else
  none) := by
  unfold y15 yrunM; rw [yrun_eq]; kernel_rfl
-- stutter/stutterbase.OwnLists
theorem y16_eq (M : YM) (l : U) : y16 M l =
  y16_1 M l 0 (⟨false, 0, []⟩ : Sx) := by
  unfold y16 yrunM; rw [yrun_eq]; kernel_rfl
theorem y16_1_eq (M : YM) (l : U) (i : Int) (out : Sx) : y16_1 M l i out =
  (U.len l).bind fun k1 =>
  (if (decide (i < ((k1 : Nat) : Int))) = true then
  (U.idx 1 l i).bind fun v2 =>
  (U.cell v2 0).bind fun c3 =>
  (y15 M c3).bind fun r4 =>
  (Rz.asSl r4).bind fun s5 =>
  (Sx.app out 1 ([Sx.fz s5])).bind fun s6 =>
  y16_1 M l (IntKind.wrap .i64 (i + 1)) s6
  else
  some (.sl out)) := by
  unfold y16_1 yrunM; rw [yrun_eq]; kernel_rfl
-- stutter/stutterref19.GraphErr
theorem y17_eq (M : YM) (g_0 : Int) (g_1 : U) (g_2 : U) : y17 M g_0 g_1 g_2 =
  (y55 M g_0 g_1 g_2).bind fun r1 =>
  (Rz.toU r1).bind fun u2 =>
  (U.asB u2).bind fun b3 =>
  (if (!b3) = true then
  some (.val (.c (.int .i64 5)))
  else
  (if (decide (60 < g_0)) = true then
  some (.val (.c (.int .i64 2)))
  else
  some (.val (.c (.int .i64 0))))) := by
  unfold y17 yrunM; rw [yrun_eq]; kernel_rfl
-- stutter/stutterref19.FormErr
theorem y19_eq (M : YM) (g_0 : Int) (g_1 : U) (g_2 : U) (c : U) : y19 M g_0 g_1 g_2 c =
  (U.len c).bind fun k1 =>
  (if (!decide (((k1 : Nat) : Int) = g_0)) = true then
  some (.val (.c (.int .i64 6)))
  else
  y19_1 M c g_0 g_1 g_2 0) := by
  unfold y19 yrunM; rw [yrun_eq]; kernel_rfl
theorem y19_1_eq (M : YM) (c : U) (g_0 : Int) (g_1 : U) (g_2 : U) (s : Int) : y19_1 M c g_0 g_1 g_2 s =
  (U.len c).bind fun k1 =>
  (if (decide (s < ((k1 : Nat) : Int))) = true then
  y19_2 M c g_0 g_1 g_2 s 1
  else
  some (.val (.c (.int .i64 0)))) := by
  unfold y19_1 yrunM; rw [yrun_eq]; kernel_rfl
theorem y19_2_eq (M : YM) (c : U) (g_0 : Int) (g_1 : U) (g_2 : U) (s : Int) (i : Int) : y19_2 M c g_0 g_1 g_2 s i =
  (U.idx 1 c s).bind fun v1 =>
  (U.cell v1 0).bind fun c2 =>
  (U.len c2).bind fun k3 =>
  (if (decide (i < ((k3 : Nat) : Int))) = true then
  (U.idx 1 c s).bind fun v4 =>
  (U.idx 1 c s).bind fun v5 =>
  (U.cell v4 0).bind fun c6 =>
  (U.idx 1 c6 i).bind fun v7 =>
  (U.cell v7 0).bind fun c8 =>
  (U.asI .i64 c8).bind fun n9 =>
  (U.cell v5 0).bind fun c10 =>
  (U.idx 1 c10 (IntKind.wrap .i64 (i - 1))).bind fun v11 =>
  (U.cell v11 0).bind fun c12 =>
  (U.asI .i64 c12).bind fun n13 =>
  (if (decide (n9 ≤ n13)) = true then
  some (.val (.c (.int .i64 13)))
  else
  y19_2 M c g_0 g_1 g_2 s (IntKind.wrap .i64 (i + 1)))
  else
  (y42 M g_0 g_1 g_2 s).bind fun r14 =>
  (Rz.asSl r14).bind fun s15 =>
  y19_3 M c g_0 g_1 g_2 s 0 s15) := by
  unfold y19_2 yrunM; rw [yrun_eq]; kernel_rfl
theorem y19_3_eq (M : YM) (c : U) (g_0 : Int) (g_1 : U) (g_2 : U) (s : Int) (i : Int) (l : Sx) : y19_3 M c g_0 g_1 g_2 s i l =
  (U.idx 1 c s).bind fun v1 =>
  (U.cell v1 0).bind fun c2 =>
  (U.len c2).bind fun k3 =>
  (if (decide (i < ((k3 : Nat) : Int))) = true then
  (U.idx 1 c s).bind fun v4 =>
  (U.cell v4 0).bind fun c5 =>
  (U.idx 1 c5 i).bind fun v6 =>
  (U.cell v6 0).bind fun c7 =>
  (U.asI .i64 c7).bind fun n8 =>
  (y39 M (Sx.fz l) n8).bind fun r9 =>
  (Rz.toU r9).bind fun u10 =>
  (U.asB u10).bind fun b11 =>
  (if (!b11) = true then
  some (.val (.c (.int .i64 10)))
  else
  y19_3 M c g_0 g_1 g_2 s (IntKind.wrap .i64 (i + 1)) l)
  else
  y19_1 M c g_0 g_1 g_2 (IntKind.wrap .i64 (s + 1))) := by
  unfold y19_3 yrunM; rw [yrun_eq]; kernel_rfl
-- stutter/reduce.ReducedBy
theorem y23_eq (M : YM) (x_0 : Int) (x_1 : U) (x_2 : U) (c : U) : y23 M x_0 x_1 x_2 c =
  (y48 M x_0 x_1 x_2).bind fun r1 =>
  (Rz.toU r1).bind fun u2 =>
  (U.asI .i64 u2).bind fun n3 =>
  (if (!decide (n3 = 0)) = true then
  some (.tup [.st [.c (.int .i64 0), Sx.fz (⟨false, 0, []⟩ : Sx), Sx.fz (⟨false, 0, []⟩ : Sx)], .c (.int .i64 n3)])
  else
  (y51 M x_0 x_1 x_2 c).bind fun r4 =>
  (Rz.toU r4).bind fun u5 =>
  (U.asI .i64 u5).bind fun n6 =>
  (if (!decide (n6 = 0)) = true then
  some (.tup [.st [.c (.int .i64 0), Sx.fz (⟨false, 0, []⟩ : Sx), Sx.fz (⟨false, 0, []⟩ : Sx)], .c (.int .i64 n6)])
  else
  (y59 M x_1).bind fun r7 =>
  (Rz.asSl r7).bind fun s8 =>
  (U.len x_2).bind fun k9 =>
  y23_1 M c 0 x_0 x_2 ((k9 : Nat) : Int) 0 (⟨false, 0, []⟩ : Sx) (⟨false, 0, []⟩ : Sx) s8 (⟨false, 0, []⟩ : Sx))) := by
  unfold y23 yrunM; rw [yrun_eq]; kernel_rfl
theorem y23_1_eq (M : YM) (c : U) (x4_0 : Int) (out_0 : Int) (x31 : U) (x32 : Int) (x33 : Int) (x4_1 : Sx) (x4_2 : Sx) (out_1 : Sx) (out_2 : Sx) : y23_1 M c x4_0 out_0 x31 x32 x33 x4_1 x4_2 out_1 out_2 =
  (if (decide (x33 < x32)) = true then
  (U.idx 3 x31 x33).bind fun v1 =>
  (U.struct v1 0 ks2).bind fun f2 =>
  (U.idx 1 c ((f2 0).i)).bind fun v3 =>
  (U.cell v3 0).bind fun c4 =>
  (y60 M c4 ((f2 2).i)).bind fun r5 =>
  (Rz.toU r5).bind fun u6 =>
  (U.asB u6).bind fun b7 =>
  (if b7 = true then
  (Sx.app out_2 3 ([.st [.c (.int .i64 ((f2 0).i)), .c (.int .i64 ((f2 1).i)), .c (.int .i64 ((f2 2).i))]])).bind fun s8 =>
  y23_2 M c x4_0 out_0 x31 x32 x33 x4_1 x4_2 out_1 s8
  else
  y23_2 M c x4_0 out_0 x31 x32 x33 x4_1 x4_2 out_1 out_2)
  else
  some (.tup [.st [.c (.int .i64 out_0), Sx.fz out_1, Sx.fz out_2], .c (.int .i64 0)])) := by
  unfold y23_1 yrunM; rw [yrun_eq]; kernel_rfl
theorem y23_2_eq (M : YM) (c : U) (x4_0 : Int) (out_0 : Int) (x31 : U) (x32 : Int) (x33 : Int) (x4_1 : Sx) (x4_2 : Sx) (out_1 : Sx) (out_2 : Sx) : y23_2 M c x4_0 out_0 x31 x32 x33 x4_1 x4_2 out_1 out_2 =
  y23_1 M c x4_0 out_0 x31 x32 (IntKind.wrap .i64 (x33 + 1)) x4_1 x4_2 out_1 out_2 := by
  unfold y23_2 yrunM; rw [yrun_eq]; kernel_rfl
-- stutter/reduce.ReachedIn
theorem y24_eq (M : YM) (x_0 : Int) (x_1 : U) (x_2 : U) : y24 M x_0 x_1 x_2 =
  (y48 M x_0 x_1 x_2).bind fun r1 =>
  (Rz.toU r1).bind fun u2 =>
  (U.asI .i64 u2).bind fun n3 =>
  (if (!decide (n3 = 0)) = true then
  some (.tup [Sx.fz (⟨false, 0, []⟩ : Sx), .c (.int .i64 n3)])
  else
  (y61 M x_0 x_1 x_2).bind fun r4 =>
  (Rz.toU r4).bind fun u5 =>
  (U.one u5).bind fun u6 =>
  (y62 M u6).bind fun r7 =>
  (Rz.asSl r7).bind fun s8 =>
  (y63 M x_0 (.fn 64 [] [.ref (.st [Sx.fz s8]) 0])).bind fun r9 =>
  (Rz.asSl r9).bind fun s10 =>
  some (.tup [Sx.fz s10, .c (.int .i64 0)])) := by
  unfold y24 yrunM; rw [yrun_eq]; kernel_rfl
-- stutter/reduce.DeadlocksIn
theorem y25_eq (M : YM) (x_0 : Int) (x_1 : U) (x_2 : U) : y25 M x_0 x_1 x_2 =
  (y48 M x_0 x_1 x_2).bind fun r1 =>
  (Rz.toU r1).bind fun u2 =>
  (U.asI .i64 u2).bind fun n3 =>
  (if (!decide (n3 = 0)) = true then
  some (.tup [Sx.fz (⟨false, 0, []⟩ : Sx), .c (.int .i64 n3)])
  else
  (y61 M x_0 x_1 x_2).bind fun r4 =>
  (Rz.toU r4).bind fun u5 =>
  (U.one u5).bind fun u6 =>
  (U.one u6).bind fun u7 =>
  (y62 M u7).bind fun r8 =>
  (Rz.asSl r8).bind fun s9 =>
  (y63 M x_0 (.fn 65 [] [.ref (.st [Sx.fz s9]) 0, .ref (.st [u7]) 0])).bind fun r10 =>
  (Rz.asSl r10).bind fun s11 =>
  some (.tup [Sx.fz s11, .c (.int .i64 0)])) := by
  unfold y25 yrunM; rw [yrun_eq]; kernel_rfl
-- stutter/stutterbase.SameGraph
theorem y26_eq (M : YM) (a_0 : Int) (a_1 : U) (a_2 : U) (b_0 : Int) (b_1 : U) (b_2 : U) : y26 M a_0 a_1 a_2 b_0 b_1 b_2 =
  (if (!decide (a_0 = b_0)) = false then
  (y27 M a_1 b_1).bind fun r1 =>
  (Rz.toU r1).bind fun u2 =>
  (U.asB u2).bind fun b3 =>
  some (!b3)
  else
  some (!decide (a_0 = b_0))).bind fun q4 =>
  (if q4 = false then
  (U.len a_2).bind fun k5 =>
  (U.len b_2).bind fun k6 =>
  some (!decide (((k5 : Nat) : Int) = ((k6 : Nat) : Int)))
  else
  some q4).bind fun q7 =>
  (if q7 = true then
  some (.val (.c (.bool false)))
  else
  y26_1 M a_0 a_1 a_2 b_0 b_1 b_2 0) := by
  unfold y26 yrunM; rw [yrun_eq]; kernel_rfl
theorem y26_1_eq (M : YM) (a_0 : Int) (a_1 : U) (a_2 : U) (b_0 : Int) (b_1 : U) (b_2 : U) (i : Int) : y26_1 M a_0 a_1 a_2 b_0 b_1 b_2 i =
  (U.len a_2).bind fun k1 =>
  (if (decide (i < ((k1 : Nat) : Int))) = true then
  (U.idx 3 a_2 i).bind fun v2 =>
  (U.idx 3 b_2 i).bind fun v3 =>
  (U.struct v2 0 ks2).bind fun f4 =>
  (U.struct v3 0 ks2).bind fun f5 =>
  (eqUs ks2 (.st [.c (.int .i64 ((f4 0).i)), .c (.int .i64 ((f4 1).i)), .c (.int .i64 ((f4 2).i))] : U) (.st [.c (.int .i64 ((f5 0).i)), .c (.int .i64 ((f5 1).i)), .c (.int .i64 ((f5 2).i))] : U)).bind fun b6 =>
  (if (b6 != true) = true then
  some (.val (.c (.bool false)))
  else
  y26_1 M a_0 a_1 a_2 b_0 b_1 b_2 (IntKind.wrap .i64 (i + 1)))
  else
  some (.val (.c (.bool true)))) := by
  unfold y26_1 yrunM; rw [yrun_eq]; kernel_rfl
-- stutter/stutterbase.EqualInts
theorem y27_eq (M : YM) (a : U) (b : U) : y27 M a b =
  (U.len a).bind fun k1 =>
  (U.len b).bind fun k2 =>
  (if (!decide (((k1 : Nat) : Int) = ((k2 : Nat) : Int))) = true then
  some (.val (.c (.bool false)))
  else
  y27_1 M a b 0) := by
  unfold y27 yrunM; rw [yrun_eq]; kernel_rfl
theorem y27_1_eq (M : YM) (a : U) (b : U) (i : Int) : y27_1 M a b i =
  (U.len a).bind fun k1 =>
  (if (decide (i < ((k1 : Nat) : Int))) = true then
  (U.idx 1 a i).bind fun v2 =>
  (U.idx 1 b i).bind fun v3 =>
  (U.cell v2 0).bind fun c4 =>
  (U.asI .i64 c4).bind fun n5 =>
  (U.cell v3 0).bind fun c6 =>
  (U.asI .i64 c6).bind fun n7 =>
  (if (!decide (n5 = n7)) = true then
  some (.val (.c (.bool false)))
  else
  y27_1 M a b (IntKind.wrap .i64 (i + 1)))
  else
  some (.val (.c (.bool true)))) := by
  unfold y27_1 yrunM; rw [yrun_eq]; kernel_rfl
-- stutter/stutterref19.Reached
theorem y28_eq (M : YM) (g_0 : Int) (g_1 : U) (g_2 : U) : y28 M g_0 g_1 g_2 =
  (if 0 ≤ g_0 ∧ g_0 ≤ 2 ^ 36 ∧ 1 = 1 then
  y28_1 M g_0 g_1 g_2 0 (⟨true, 1, List.replicate g_0.toNat (.c (.bool false))⟩ : Sx)
  else
  none) := by
  unfold y28 yrunM; rw [yrun_eq]; kernel_rfl
theorem y28_1_eq (M : YM) (g_0 : Int) (g_1 : U) (g_2 : U) (i : Int) (seen : Sx) : y28_1 M g_0 g_1 g_2 i seen =
  (U.len g_1).bind fun k1 =>
  (if (decide (i < ((k1 : Nat) : Int))) = true then
  (U.idx 1 g_1 i).bind fun v2 =>
  (U.cell v2 0).bind fun c3 =>
  (U.asI .i64 c3).bind fun n4 =>
  (if Sx.has seen 1 n4 = true then
  (Sx.put seen 1 n4.toNat 0 (.c (.bool true))).bind fun s5 =>
  y28_1 M g_0 g_1 g_2 (IntKind.wrap .i64 (i + 1)) s5
  else
  none)
  else
  y28_2 M g_0 g_1 g_2 0 seen) := by
  unfold y28_1 yrunM; rw [yrun_eq]; kernel_rfl
theorem y28_2_eq (M : YM) (g_0 : Int) (g_1 : U) (g_2 : U) (k : Int) (seen : Sx) : y28_2 M g_0 g_1 g_2 k seen =
  (if (decide (k < g_0)) = true then
  y28_3 M g_0 g_1 g_2 k 0 seen
  else
  y28_4 M g_0 g_1 g_2 0 seen (⟨false, 0, []⟩ : Sx)) := by
  unfold y28_2 yrunM; rw [yrun_eq]; kernel_rfl
theorem y28_3_eq (M : YM) (g_0 : Int) (g_1 : U) (g_2 : U) (k : Int) (i : Int) (seen : Sx) : y28_3 M g_0 g_1 g_2 k i seen =
  (U.len g_2).bind fun k1 =>
  (if (decide (i < ((k1 : Nat) : Int))) = true then
  (U.idx 3 g_2 i).bind fun v2 =>
  (U.idx 3 g_2 i).bind fun v3 =>
  (U.cell v2 1).bind fun c4 =>
  (U.asI .i64 c4).bind fun n5 =>
  (U.cell v3 1).bind fun c6 =>
  (U.asI .i64 c6).bind fun n7 =>
  (if Sx.has seen 1 n7 = true then
  ((seen.es)[n7.toNat]?).bind fun v8 =>
  (U.cell v8 0).bind fun c9 =>
  (U.asB c9).bind fun b10 =>
  (if b10 = false then
  (U.idx 3 g_2 i).bind fun v11 =>
  (U.cell v11 0).bind fun c12 =>
  (U.asI .i64 c12).bind fun n13 =>
  (if Sx.has seen 1 n13 = true then
  ((seen.es)[n13.toNat]?).bind fun v14 =>
  (U.cell v14 0).bind fun c15 =>
  (U.asB c15).bind fun b16 =>
  some b16
  else
  none)
  else
  some b10).bind fun q17 =>
  (if Sx.has seen 1 n5 = true then
  (Sx.put seen 1 n5.toNat 0 (.c (.bool q17))).bind fun s18 =>
  y28_3 M g_0 g_1 g_2 k (IntKind.wrap .i64 (i + 1)) s18
  else
  none)
  else
  none)
  else
  y28_2 M g_0 g_1 g_2 (IntKind.wrap .i64 (k + 1)) seen) := by
  unfold y28_3 yrunM; rw [yrun_eq]; kernel_rfl
theorem y28_4_eq (M : YM) (g_0 : Int) (g_1 : U) (g_2 : U) (s : Int) (seen : Sx) (out : Sx) : y28_4 M g_0 g_1 g_2 s seen out =
  (if (decide (s < g_0)) = true then
  (if Sx.has seen 1 s = true then
  ((seen.es)[s.toNat]?).bind fun v1 =>
  (U.cell v1 0).bind fun c2 =>
  (U.asB c2).bind fun b3 =>
  (if b3 = true then
  (Sx.app out 1 ([.c (.int .i64 s)])).bind fun s4 =>
  y28_5 M g_0 g_1 g_2 s seen s4
  else
  y28_5 M g_0 g_1 g_2 s seen out)
  else
  none)
  else
  (if scals out.es = true then
  some (.sl out)
  else
  none)) := by
  unfold y28_4 yrunM; rw [yrun_eq]; kernel_rfl
theorem y28_5_eq (M : YM) (g_0 : Int) (g_1 : U) (g_2 : U) (s : Int) (seen : Sx) (out : Sx) : y28_5 M g_0 g_1 g_2 s seen out =
  y28_4 M g_0 g_1 g_2 (IntKind.wrap .i64 (s + 1)) seen out := by
  unfold y28_5 yrunM; rw [yrun_eq]; kernel_rfl
-- stutter/stutterref19.Deadlocks
theorem y29_eq (M : YM) (g_0 : Int) (g_1 : U) (g_2 : U) : y29 M g_0 g_1 g_2 =
  (y28 M g_0 g_1 g_2).bind fun r1 =>
  (Rz.asSl r1).bind fun s2 =>
  y29_1 M g_0 g_1 g_2 0 s2 (⟨false, 0, []⟩ : Sx) := by
  unfold y29 yrunM; rw [yrun_eq]; kernel_rfl
theorem y29_1_eq (M : YM) (g_0 : Int) (g_1 : U) (g_2 : U) (i : Int) (l : Sx) (out : Sx) : y29_1 M g_0 g_1 g_2 i l out =
  (if (decide (i < (((l.es).length : Nat) : Int))) = true then
  (if Sx.has l 1 i = true then
  ((l.es)[i.toNat]?).bind fun v1 =>
  (U.cell v1 0).bind fun c2 =>
  (U.asI .i64 c2).bind fun n3 =>
  (y42 M g_0 g_1 g_2 n3).bind fun r4 =>
  (Rz.asSl r4).bind fun s5 =>
  (if (decide ((((s5.es).length : Nat) : Int) = 0)) = true then
  (if Sx.has l 1 i = true then
  ((l.es)[i.toNat]?).bind fun v6 =>
  (U.cell v6 0).bind fun c7 =>
  (U.asI .i64 c7).bind fun n8 =>
  (Sx.app out 1 ([.c (.int .i64 n8)])).bind fun s9 =>
  y29_2 M g_0 g_1 g_2 i l s9
  else
  none)
  else
  y29_2 M g_0 g_1 g_2 i l out)
  else
  none)
  else
  (if scals out.es = true then
  some (.sl out)
  else
  none)) := by
  unfold y29_1 yrunM; rw [yrun_eq]; kernel_rfl
theorem y29_2_eq (M : YM) (g_0 : Int) (g_1 : U) (g_2 : U) (i : Int) (l : Sx) (out : Sx) : y29_2 M g_0 g_1 g_2 i l out =
  y29_1 M g_0 g_1 g_2 (IntKind.wrap .i64 (i + 1)) l out := by
  unfold y29_2 yrunM; rw [yrun_eq]; kernel_rfl
-- stutter/stutterref19.Reduced
theorem y30_eq (M : YM) (g_0 : Int) (g_1 : U) (g_2 : U) (c : U) : y30 M g_0 g_1 g_2 c =
  (y15 M g_1).bind fun r1 =>
  (Rz.asSl r1).bind fun s2 =>
  y30_1 M c g_0 g_1 g_2 0 g_0 0 (⟨false, 0, []⟩ : Sx) (⟨false, 0, []⟩ : Sx) s2 (⟨false, 0, []⟩ : Sx) := by
  unfold y30 yrunM; rw [yrun_eq]; kernel_rfl
theorem y30_1_eq (M : YM) (c : U) (g_0 : Int) (g_1 : U) (g_2 : U) (x4_0 : Int) (out_0 : Int) (i : Int) (x4_1 : Sx) (x4_2 : Sx) (out_1 : Sx) (out_2 : Sx) : y30_1 M c g_0 g_1 g_2 x4_0 out_0 i x4_1 x4_2 out_1 out_2 =
  (U.len g_2).bind fun k1 =>
  (if (decide (i < ((k1 : Nat) : Int))) = true then
  (U.idx 3 g_2 i).bind fun v2 =>
  (U.idx 3 g_2 i).bind fun v3 =>
  (U.cell v2 0).bind fun c4 =>
  (U.asI .i64 c4).bind fun n5 =>
  (U.idx 1 c n5).bind fun v6 =>
  (U.cell v6 0).bind fun c7 =>
  (U.cell v3 2).bind fun c8 =>
  (U.asI .i64 c8).bind fun n9 =>
  (y39 M c7 n9).bind fun r10 =>
  (Rz.toU r10).bind fun u11 =>
  (U.asB u11).bind fun b12 =>
  (if b12 = true then
  (U.idx 3 g_2 i).bind fun v13 =>
  (U.struct v13 0 ks2).bind fun f14 =>
  (Sx.app out_2 3 ([.st [.c (.int .i64 ((f14 0).i)), .c (.int .i64 ((f14 1).i)), .c (.int .i64 ((f14 2).i))]])).bind fun s15 =>
  y30_2 M c g_0 g_1 g_2 x4_0 out_0 i x4_1 x4_2 out_1 s15
  else
  y30_2 M c g_0 g_1 g_2 x4_0 out_0 i x4_1 x4_2 out_1 out_2)
  else
  some (.val (.st [.c (.int .i64 out_0), Sx.fz out_1, Sx.fz out_2]))) := by
  unfold y30_1 yrunM; rw [yrun_eq]; kernel_rfl
theorem y30_2_eq (M : YM) (c : U) (g_0 : Int) (g_1 : U) (g_2 : U) (x4_0 : Int) (out_0 : Int) (i : Int) (x4_1 : Sx) (x4_2 : Sx) (out_1 : Sx) (out_2 : Sx) : y30_2 M c g_0 g_1 g_2 x4_0 out_0 i x4_1 x4_2 out_1 out_2 =
  y30_1 M c g_0 g_1 g_2 x4_0 out_0 (IntKind.wrap .i64 (i + 1)) x4_1 x4_2 out_1 out_2 := by
  unfold y30_2 yrunM; rw [yrun_eq]; kernel_rfl
-- stutter/stutterbase.Between
theorem y37_eq (M : YM) (n : Int) (low : Int) (high : Int) : y37 M n low high =
  (if (decide (low ≤ n)) = true then
  some (decide (n ≤ high))
  else
  some (decide (low ≤ n))).bind fun q1 =>
  some (.val (.c (.bool q1))) := by
  unfold y37 yrunM; rw [yrun_eq]; kernel_rfl
-- stutter/stutterbase.Holds
theorem y39_eq (M : YM) (l : U) (n : Int) : y39 M l n =
  y39_1 M l n 0 := by
  unfold y39 yrunM; rw [yrun_eq]; kernel_rfl
theorem y39_1_eq (M : YM) (l : U) (n : Int) (i : Int) : y39_1 M l n i =
  (U.len l).bind fun k1 =>
  (if (decide (i < ((k1 : Nat) : Int))) = true then
  (U.idx 1 l i).bind fun v2 =>
  (U.cell v2 0).bind fun c3 =>
  (U.asI .i64 c3).bind fun n4 =>
  (if (decide (n4 = n)) = true then
  some (.val (.c (.bool true)))
  else
  y39_1 M l n (IntKind.wrap .i64 (i + 1)))
  else
  some (.val (.c (.bool false)))) := by
  unfold y39_1 yrunM; rw [yrun_eq]; kernel_rfl
-- stutter/stutterref19.Enabled
theorem y42_eq (M : YM) (g_0 : Int) (g_1 : U) (g_2 : U) (s : Int) : y42 M g_0 g_1 g_2 s =
  y42_1 M s g_0 g_1 g_2 0 (⟨false, 0, []⟩ : Sx) := by
  unfold y42 yrunM; rw [yrun_eq]; kernel_rfl
theorem y42_1_eq (M : YM) (s : Int) (g_0 : Int) (g_1 : U) (g_2 : U) (a : Int) (out : Sx) : y42_1 M s g_0 g_1 g_2 a out =
  (if (decide (a < 12)) = true then
  (y71 M g_0 g_1 g_2 s a).bind fun r1 =>
  (Rz.asSl r1).bind fun s2 =>
  (if (decide (0 < (((s2.es).length : Nat) : Int))) = true then
  (Sx.app out 1 ([.c (.int .i64 a)])).bind fun s3 =>
  y42_2 M s g_0 g_1 g_2 a s3
  else
  y42_2 M s g_0 g_1 g_2 a out)
  else
  (if scals out.es = true then
  some (.sl out)
  else
  none)) := by
  unfold y42_1 yrunM; rw [yrun_eq]; kernel_rfl
theorem y42_2_eq (M : YM) (s : Int) (g_0 : Int) (g_1 : U) (g_2 : U) (a : Int) (out : Sx) : y42_2 M s g_0 g_1 g_2 a out =
  y42_1 M s g_0 g_1 g_2 (IntKind.wrap .i64 (a + 1)) out := by
  unfold y42_2 yrunM; rw [yrun_eq]; kernel_rfl
-- stutter/reduce.graphErr
theorem y48_eq (M : YM) (g_0 : Int) (g_1 : U) (g_2 : U) : y48 M g_0 g_1 g_2 =
  (y69 M g_0 0 400).bind fun r1 =>
  (Rz.toU r1).bind fun u2 =>
  (U.asB u2).bind fun b3 =>
  (if (!b3) = false then
  (U.len g_2).bind fun k4 =>
  some (decide (2000 < ((k4 : Nat) : Int)))
  else
  some (!b3)).bind fun q5 =>
  (if q5 = true then
  some (.val (.c (.int .i64 5)))
  else
  (U.len g_1).bind fun k6 =>
  y48_1 M g_0 g_1 g_2 g_1 ((k6 : Nat) : Int) 0) := by
  unfold y48 yrunM; rw [yrun_eq]; kernel_rfl
theorem y48_1_eq (M : YM) (g_0 : Int) (g_1 : U) (g_2 : U) (x18 : U) (x19 : Int) (x20 : Int) : y48_1 M g_0 g_1 g_2 x18 x19 x20 =
  (if (decide (x20 < x19)) = true then
  (U.idx 1 x18 x20).bind fun v1 =>
  (U.cell v1 0).bind fun c2 =>
  (U.asI .i64 c2).bind fun n3 =>
  (y69 M n3 0 (IntKind.wrap .i64 (g_0 - 1))).bind fun r4 =>
  (Rz.toU r4).bind fun u5 =>
  (U.asB u5).bind fun b6 =>
  (if (!b6) = false then
  (if (decide (0 < x20)) = true then
  (U.idx 1 g_1 (IntKind.wrap .i64 (x20 - 1))).bind fun v7 =>
  (U.cell v7 0).bind fun c8 =>
  (U.asI .i64 c8).bind fun n9 =>
  some (decide (n3 ≤ n9))
  else
  some (decide (0 < x20))).bind fun q10 =>
  some q10
  else
  some (!b6)).bind fun q11 =>
  (if q11 = true then
  some (.val (.c (.int .i64 5)))
  else
  y48_1 M g_0 g_1 g_2 x18 x19 (IntKind.wrap .i64 (x20 + 1)))
  else
  (U.len g_2).bind fun k12 =>
  y48_2 M g_0 g_1 g_2 g_2 ((k12 : Nat) : Int) 0) := by
  unfold y48_1 yrunM; rw [yrun_eq]; kernel_rfl
theorem y48_2_eq (M : YM) (g_0 : Int) (g_1 : U) (g_2 : U) (x47 : U) (x48 : Int) (x49 : Int) : y48_2 M g_0 g_1 g_2 x47 x48 x49 =
  (if (decide (x49 < x48)) = true then
  (U.idx 3 x47 x49).bind fun v1 =>
  (U.struct v1 0 ks2).bind fun f2 =>
  (y69 M ((f2 0).i) 0 (IntKind.wrap .i64 (g_0 - 1))).bind fun r3 =>
  (Rz.toU r3).bind fun u4 =>
  (U.asB u4).bind fun b5 =>
  (if (!b5) = false then
  (y69 M ((f2 1).i) 0 (IntKind.wrap .i64 (g_0 - 1))).bind fun r6 =>
  (Rz.toU r6).bind fun u7 =>
  (U.asB u7).bind fun b8 =>
  some (!b8)
  else
  some (!b5)).bind fun q9 =>
  (if q9 = false then
  (y69 M ((f2 2).i) 0 11).bind fun r10 =>
  (Rz.toU r10).bind fun u11 =>
  (U.asB u11).bind fun b12 =>
  some (!b12)
  else
  some q9).bind fun q13 =>
  (if q13 = false then
  (if (decide (0 < x49)) = true then
  (U.idx 3 g_2 (IntKind.wrap .i64 (x49 - 1))).bind fun v14 =>
  (U.struct v14 0 ks2).bind fun f15 =>
  (y78 M ((f15 0).i) ((f15 1).i) ((f15 2).i) ((f2 0).i) ((f2 1).i) ((f2 2).i)).bind fun r16 =>
  (Rz.toU r16).bind fun u17 =>
  (U.asI .i64 u17).bind fun n18 =>
  some (decide (0 ≤ n18))
  else
  some (decide (0 < x49))).bind fun q19 =>
  some q19
  else
  some q13).bind fun q20 =>
  (if q20 = true then
  some (.val (.c (.int .i64 5)))
  else
  y48_2 M g_0 g_1 g_2 x47 x48 (IntKind.wrap .i64 (x49 + 1)))
  else
  (y68 M (decide (g_0 ≤ 60)) 2).bind fun r21 =>
  (Rz.toU r21).bind fun u22 =>
  (U.asI .i64 u22).bind fun n23 =>
  some (.val (.c (.int .i64 n23)))) := by
  unfold y48_2 yrunM; rw [yrun_eq]; kernel_rfl
-- stutter/reduce.choiceErr
theorem y51_eq (M : YM) (x_0 : Int) (x_1 : U) (x_2 : U) (c : U) : y51 M x_0 x_1 x_2 c =
  (U.len c).bind fun k1 =>
  (if (!decide (((k1 : Nat) : Int) = x_0)) = true then
  some (.val (.c (.int .i64 6)))
  else
  (y61 M x_0 x_1 x_2).bind fun r2 =>
  (Rz.toU r2).bind fun u3 =>
  (U.one u3).bind fun u4 =>
  (U.len c).bind fun k5 =>
  y51_1 M u4 c ((k5 : Nat) : Int) 0) := by
  unfold y51 yrunM; rw [yrun_eq]; kernel_rfl
theorem y51_1_eq (M : YM) (g : U) (x18 : U) (x19 : Int) (x20 : Int) : y51_1 M g x18 x19 x20 =
  (if (decide (x20 < x19)) = true then
  (U.idx 1 x18 x20).bind fun v1 =>
  (U.cell v1 0).bind fun c2 =>
  y51_2 M g x20 c2 1 x18 x19 x20
  else
  some (.val (.c (.int .i64 0)))) := by
  unfold y51_1 yrunM; rw [yrun_eq]; kernel_rfl
theorem y51_2_eq (M : YM) (g : U) (s : Int) (vset : U) (i : Int) (x18 : U) (x19 : Int) (x20 : Int) : y51_2 M g s vset i x18 x19 x20 =
  (U.len vset).bind fun k1 =>
  (if (decide (i < ((k1 : Nat) : Int))) = true then
  (U.idx 1 vset i).bind fun v2 =>
  (U.idx 1 vset (IntKind.wrap .i64 (i - 1))).bind fun v3 =>
  (U.cell v2 0).bind fun c4 =>
  (U.asI .i64 c4).bind fun n5 =>
  (U.cell v3 0).bind fun c6 =>
  (U.asI .i64 c6).bind fun n7 =>
  (if (decide (n5 ≤ n7)) = true then
  some (.val (.c (.int .i64 13)))
  else
  y51_2 M g s vset (IntKind.wrap .i64 (i + 1)) x18 x19 x20)
  else
  (U.len vset).bind fun k8 =>
  y51_3 M g s x18 x19 x20 vset ((k8 : Nat) : Int) 0) := by
  unfold y51_2 yrunM; rw [yrun_eq]; kernel_rfl
theorem y51_3_eq (M : YM) (g : U) (s : Int) (x18 : U) (x19 : Int) (x20 : Int) (x41 : U) (x42 : Int) (x43 : Int) : y51_3 M g s x18 x19 x20 x41 x42 x43 =
  (if (decide (x43 < x42)) = true then
  (U.idx 1 x41 x43).bind fun v1 =>
  (U.cell v1 0).bind fun c2 =>
  (U.asI .i64 c2).bind fun n3 =>
  (y69 M n3 0 11).bind fun r4 =>
  (Rz.toU r4).bind fun u5 =>
  (U.asB u5).bind fun b6 =>
  (if (!b6) = false then
  (U.asR g).bind fun a7 =>
  (U.cell a7.1 (a7.2 + 4)).bind fun c8 =>
  (U.idx 12 c8 s).bind fun v9 =>
  (if 0 ≤ n3 ∧ n3 < ((12 : Nat) : Int) then
  (U.cell v9 (0 + n3.toNat * 1)).bind fun c10 =>
  (U.len c10).bind fun k11 =>
  some (decide (((k11 : Nat) : Int) = 0))
  else
  none)
  else
  some (!b6)).bind fun q12 =>
  (if q12 = true then
  some (.val (.c (.int .i64 10)))
  else
  y51_3 M g s x18 x19 x20 x41 x42 (IntKind.wrap .i64 (x43 + 1)))
  else
  y51_1 M g x18 x19 (IntKind.wrap .i64 (x20 + 1))) := by
  unfold y51_3 yrunM; rw [yrun_eq]; kernel_rfl
-- stutter/stutterbase.IsGraph
theorem y55_eq (M : YM) (g_0 : Int) (g_1 : U) (g_2 : U) : y55 M g_0 g_1 g_2 =
  (y37 M g_0 0 400).bind fun r1 =>
  (Rz.toU r1).bind fun u2 =>
  (U.asB u2).bind fun b3 =>
  (if (!b3) = false then
  (U.len g_1).bind fun k4 =>
  some (decide (g_0 < ((k4 : Nat) : Int)))
  else
  some (!b3)).bind fun q5 =>
  (if q5 = false then
  (U.len g_2).bind fun k6 =>
  some (decide (2000 < ((k6 : Nat) : Int)))
  else
  some q5).bind fun q7 =>
  (if q7 = true then
  some (.val (.c (.bool false)))
  else
  y55_1 M g_0 g_1 g_2 0) := by
  unfold y55 yrunM; rw [yrun_eq]; kernel_rfl
theorem y55_1_eq (M : YM) (g_0 : Int) (g_1 : U) (g_2 : U) (i : Int) : y55_1 M g_0 g_1 g_2 i =
  (U.len g_1).bind fun k1 =>
  (if (decide (i < ((k1 : Nat) : Int))) = true then
  (U.idx 1 g_1 i).bind fun v2 =>
  (U.cell v2 0).bind fun c3 =>
  (U.asI .i64 c3).bind fun n4 =>
  (y37 M n4 0 (IntKind.wrap .i64 (g_0 - 1))).bind fun r5 =>
  (Rz.toU r5).bind fun u6 =>
  (U.asB u6).bind fun b7 =>
  (if (!b7) = false then
  (if (decide (0 < i)) = true then
  (U.idx 1 g_1 i).bind fun v8 =>
  (U.idx 1 g_1 (IntKind.wrap .i64 (i - 1))).bind fun v9 =>
  (U.cell v8 0).bind fun c10 =>
  (U.asI .i64 c10).bind fun n11 =>
  (U.cell v9 0).bind fun c12 =>
  (U.asI .i64 c12).bind fun n13 =>
  some (decide (n11 ≤ n13))
  else
  some (decide (0 < i))).bind fun q14 =>
  some q14
  else
  some (!b7)).bind fun q15 =>
  (if q15 = true then
  some (.val (.c (.bool false)))
  else
  y55_1 M g_0 g_1 g_2 (IntKind.wrap .i64 (i + 1)))
  else
  y55_2 M g_0 g_1 g_2 0) := by
  unfold y55_1 yrunM; rw [yrun_eq]; kernel_rfl
theorem y55_2_eq (M : YM) (g_0 : Int) (g_1 : U) (g_2 : U) (i : Int) : y55_2 M g_0 g_1 g_2 i =
  (U.len g_2).bind fun k1 =>
  (if (decide (i < ((k1 : Nat) : Int))) = true then
  (U.idx 3 g_2 i).bind fun v2 =>
  (U.struct v2 0 ks2).bind fun f3 =>
  (y37 M ((f3 0).i) 0 (IntKind.wrap .i64 (g_0 - 1))).bind fun r4 =>
  (Rz.toU r4).bind fun u5 =>
  (U.asB u5).bind fun b6 =>
  (if (!b6) = false then
  (y37 M ((f3 1).i) 0 (IntKind.wrap .i64 (g_0 - 1))).bind fun r7 =>
  (Rz.toU r7).bind fun u8 =>
  (U.asB u8).bind fun b9 =>
  some (!b9)
  else
  some (!b6)).bind fun q10 =>
  (if q10 = false then
  (y37 M ((f3 2).i) 0 11).bind fun r11 =>
  (Rz.toU r11).bind fun u12 =>
  (U.asB u12).bind fun b13 =>
  some (!b13)
  else
  some q10).bind fun q14 =>
  (if q14 = false then
  (if (decide (0 < i)) = true then
  (U.idx 3 g_2 (IntKind.wrap .i64 (i - 1))).bind fun v15 =>
  (U.struct v15 0 ks2).bind fun f16 =>
  (y89 M ((f16 0).i) ((f16 1).i) ((f16 2).i)).bind fun r17 =>
  (Rz.asSl r17).bind fun s18 =>
  (y89 M ((f3 0).i) ((f3 1).i) ((f3 2).i)).bind fun r19 =>
  (Rz.asSl r19).bind fun s20 =>
  (y88 M (Sx.fz s18) (Sx.fz s20)).bind fun r21 =>
  (Rz.toU r21).bind fun u22 =>
  (U.asI .i64 u22).bind fun n23 =>
  some (decide (0 ≤ n23))
  else
  some (decide (0 < i))).bind fun q24 =>
  some q24
  else
  some q14).bind fun q25 =>
  (if q25 = true then
  some (.val (.c (.bool false)))
  else
  y55_2 M g_0 g_1 g_2 (IntKind.wrap .i64 (i + 1)))
  else
  some (.val (.c (.bool true)))) := by
  unfold y55_2 yrunM; rw [yrun_eq]; kernel_rfl
-- slices.Clone[[]int,int]
theorem y59_eq (M : YM) (s : U) : y59 M s =
  (U.isNil .slice s).bind fun b1 =>
  (if (b1 != false) = true then
  some (.sl (⟨false, 0, []⟩ : Sx))
  else
  (U.asL s).bind fun l2 =>
  (Sx.app (⟨true, 1, []⟩ : Sx) 1 l2.2).bind fun s3 =>
  (if scals s3.es = true then
  some (.sl s3)
  else
  none)) := by
  unfold y59 yrunM; rw [yrun_eq]; kernel_rfl
-- slices.Contains[[]int,int]
theorem y60_eq (M : YM) (s : U) (v : Int) : y60 M s v =
  (y92 M s v).bind fun r1 =>
  (Rz.toU r1).bind fun u2 =>
  (U.asI .i64 u2).bind fun n3 =>
  some (.val (.c (.bool (decide (0 ≤ n3))))) := by
  unfold y60 yrunM; rw [yrun_eq]; kernel_rfl
-- (*stutter/reduce.graph).reached
theorem y62_eq (M : YM) (g : U) : y62 M g =
  (U.asR g).bind fun a1 =>
  (U.cell a1.1 a1.2).bind fun c2 =>
  (U.asI .i64 c2).bind fun n3 =>
  (if 0 ≤ n3 ∧ n3 ≤ 2 ^ 36 ∧ 1 = 1 then
  (U.asR g).bind fun a4 =>
  (U.cell a4.1 (a4.2 + 1)).bind fun c5 =>
  (y59 M c5).bind fun r6 =>
  (Rz.asSl r6).bind fun s7 =>
  y62_1 M g (⟨true, 1, List.replicate n3.toNat (.c (.bool false))⟩ : Sx) s7
  else
  none) := by
  unfold y62 yrunM; rw [yrun_eq]; kernel_rfl
theorem y62_1_eq (M : YM) (g : U) (out : Sx) (vopen : Sx) : y62_1 M g out vopen =
  (if (decide (0 < (((vopen.es).length : Nat) : Int))) = true then
  (if Sx.has vopen 1 (IntKind.wrap .i64 ((((vopen.es).length : Nat) : Int) - 1)) = true then
  ((vopen.es)[(IntKind.wrap .i64 ((((vopen.es).length : Nat) : Int) - 1)).toNat]?).bind fun v1 =>
  (U.cell v1 0).bind fun c2 =>
  (U.asI .i64 c2).bind fun n3 =>
  (if vopen.sz = 1 ∧ vopen.b = true then
  (subU 1 vopen.es 0 (some (IntKind.wrap .i64 ((((vopen.es).length : Nat) : Int) - 1)))).bind fun l4 =>
  (if Sx.has out 1 n3 = true then
  ((out.es)[n3.toNat]?).bind fun v5 =>
  (U.cell v5 0).bind fun c6 =>
  (U.asB c6).bind fun b7 =>
  (if b7 = true then
  y62_1 M g out (Sx.win vopen ((0 : Int).toNat) l4.length)
  else
  (if Sx.has out 1 n3 = true then
  (Sx.put out 1 n3.toNat 0 (.c (.bool true))).bind fun s8 =>
  (U.asR g).bind fun a9 =>
  (U.cell a9.1 (a9.2 + 3)).bind fun c10 =>
  (U.idx 1 c10 n3).bind fun v11 =>
  (U.cell v11 0).bind fun c12 =>
  (U.len c12).bind fun k13 =>
  y62_2 M g c12 ((k13 : Nat) : Int) 0 s8 (Sx.win vopen ((0 : Int).toNat) l4.length)
  else
  none))
  else
  none)
  else
  none)
  else
  none)
  else
  (if scals out.es = true then
  some (.sl out)
  else
  none)) := by
  unfold y62_1 yrunM; rw [yrun_eq]; kernel_rfl
theorem y62_2_eq (M : YM) (g : U) (x47 : U) (x48 : Int) (x49 : Int) (out : Sx) (vopen : Sx) : y62_2 M g x47 x48 x49 out vopen =
  (if (decide (x49 < x48)) = true then
  (U.idx 1 x47 x49).bind fun v1 =>
  (U.cell v1 0).bind fun c2 =>
  (U.asI .i64 c2).bind fun n3 =>
  (U.asR g).bind fun a4 =>
  (U.cell a4.1 (a4.2 + 2)).bind fun c5 =>
  (U.idx 3 c5 n3).bind fun v6 =>
  (U.cell v6 1).bind fun c7 =>
  (U.asI .i64 c7).bind fun n8 =>
  (Sx.app vopen 1 ([.c (.int .i64 n8)])).bind fun s9 =>
  y62_2 M g x47 x48 (IntKind.wrap .i64 (x49 + 1)) out s9
  else
  y62_1 M g out vopen) := by
  unfold y62_2 yrunM; rw [yrun_eq]; kernel_rfl
-- stutter/reduce.chosen
theorem y63_eq (M : YM) (n : Int) (holds : U) : y63 M n holds =
  y63_1 M holds n 0 (⟨false, 0, []⟩ : Sx) := by
  unfold y63 yrunM; rw [yrun_eq]; kernel_rfl
theorem y63_1_eq (M : YM) (holds : U) (x7 : Int) (x8 : Int) (out : Sx) : y63_1 M holds x7 x8 out =
  (if (decide (x8 < x7)) = true then
  (U.asF holds).bind fun g1 =>
  (ycall M g1.1 (g1.2.1 ++ [.c (.int .i64 x8)] ++ g1.2.2)).bind fun r2 =>
  (Rz.toU r2).bind fun u3 =>
  (U.asB u3).bind fun b4 =>
  (if b4 = true then
  (Sx.app out 1 ([.c (.int .i64 x8)])).bind fun s5 =>
  y63_2 M holds x7 x8 s5
  else
  y63_2 M holds x7 x8 out)
  else
  (if scals out.es = true then
  some (.sl out)
  else
  none)) := by
  unfold y63_1 yrunM; rw [yrun_eq]; kernel_rfl
theorem y63_2_eq (M : YM) (holds : U) (x7 : Int) (x8 : Int) (out : Sx) : y63_2 M holds x7 x8 out =
  y63_1 M holds x7 (IntKind.wrap .i64 (x8 + 1)) out := by
  unfold y63_2 yrunM; rw [yrun_eq]; kernel_rfl
-- stutter/reduce.ReachedIn$1
theorem y64_eq (M : YM) (s : Int) (x1 : U) : y64 M s x1 =
  (U.asR x1).bind fun a1 =>
  (U.cell a1.1 a1.2).bind fun c2 =>
  (U.idx 1 c2 s).bind fun v3 =>
  (U.cell v3 0).bind fun c4 =>
  (U.asB c4).bind fun b5 =>
  some (.val (.c (.bool b5))) := by
  unfold y64 yrunM; rw [yrun_eq]; kernel_rfl
-- stutter/reduce.DeadlocksIn$1
theorem y65_eq (M : YM) (s : Int) (x1 : U) (x2 : U) : y65 M s x1 x2 =
  (U.asR x1).bind fun a1 =>
  (U.cell a1.1 a1.2).bind fun c2 =>
  (U.idx 1 c2 s).bind fun v3 =>
  (U.cell v3 0).bind fun c4 =>
  (U.asB c4).bind fun b5 =>
  (if b5 = true then
  (U.asR x2).bind fun a6 =>
  (U.cell a6.1 a6.2).bind fun c7 =>
  (U.asR c7).bind fun a8 =>
  (U.cell a8.1 (a8.2 + 3)).bind fun c9 =>
  (U.idx 1 c9 s).bind fun v10 =>
  (U.cell v10 0).bind fun c11 =>
  (U.len c11).bind fun k12 =>
  some (decide (((k12 : Nat) : Int) = 0))
  else
  some b5).bind fun q13 =>
  some (.val (.c (.bool q13))) := by
  unfold y65 yrunM; rw [yrun_eq]; kernel_rfl
-- stutter/reduce.unless
theorem y68_eq (M : YM) (holds : Bool) (e : Int) : y68 M holds e =
  (if holds = true then
  some (.val (.c (.int .i64 0)))
  else
  some (.val (.c (.int .i64 e)))) := by
  unfold y68 yrunM; rw [yrun_eq]; kernel_rfl
-- stutter/reduce.in
theorem y69_eq (M : YM) (n : Int) (lo : Int) (hi : Int) : y69 M n lo hi =
  (if (decide (lo ≤ n)) = true then
  some (decide (n ≤ hi))
  else
  some (decide (lo ≤ n))).bind fun q1 =>
  some (.val (.c (.bool q1))) := by
  unfold y69 yrunM; rw [yrun_eq]; kernel_rfl
-- stutter/stutterref19.steps
theorem y71_eq (M : YM) (g_0 : Int) (g_1 : U) (g_2 : U) (s : Int) (a : Int) : y71 M g_0 g_1 g_2 s a =
  y71_1 M s a g_0 g_1 g_2 0 (⟨false, 0, []⟩ : Sx) := by
  unfold y71 yrunM; rw [yrun_eq]; kernel_rfl
theorem y71_1_eq (M : YM) (s : Int) (a : Int) (g_0 : Int) (g_1 : U) (g_2 : U) (i : Int) (out : Sx) : y71_1 M s a g_0 g_1 g_2 i out =
  (U.len g_2).bind fun k1 =>
  (if (decide (i < ((k1 : Nat) : Int))) = true then
  (U.idx 3 g_2 i).bind fun v2 =>
  (U.cell v2 0).bind fun c3 =>
  (U.asI .i64 c3).bind fun n4 =>
  (if (decide (n4 = s)) = true then
  (U.idx 3 g_2 i).bind fun v5 =>
  (U.cell v5 2).bind fun c6 =>
  (U.asI .i64 c6).bind fun n7 =>
  some (decide (n7 = a))
  else
  some (decide (n4 = s))).bind fun q8 =>
  (if q8 = true then
  (Sx.app out 1 ([.c (.int .i64 i)])).bind fun s9 =>
  y71_2 M s a g_0 g_1 g_2 i s9
  else
  y71_2 M s a g_0 g_1 g_2 i out)
  else
  (if scals out.es = true then
  some (.sl out)
  else
  none)) := by
  unfold y71_1 yrunM; rw [yrun_eq]; kernel_rfl
theorem y71_2_eq (M : YM) (s : Int) (a : Int) (g_0 : Int) (g_1 : U) (g_2 : U) (i : Int) (out : Sx) : y71_2 M s a g_0 g_1 g_2 i out =
  y71_1 M s a g_0 g_1 g_2 (IntKind.wrap .i64 (i + 1)) out := by
  unfold y71_2 yrunM; rw [yrun_eq]; kernel_rfl
-- stutter/reduce.steps
theorem y78_eq (M : YM) (a_0 : Int) (a_1 : Int) (a_2 : Int) (b_0 : Int) (b_1 : Int) (b_2 : Int) : y78 M a_0 a_1 a_2 b_0 b_1 b_2 =
  (y98 M a_0 b_0).bind fun r1 =>
  (Rz.toU r1).bind fun u2 =>
  (U.asI .i64 u2).bind fun n3 =>
  (y98 M a_1 b_1).bind fun r4 =>
  (Rz.toU r4).bind fun u5 =>
  (U.asI .i64 u5).bind fun n6 =>
  (y98 M a_2 b_2).bind fun r7 =>
  (Rz.toU r7).bind fun u8 =>
  (U.asI .i64 u8).bind fun n9 =>
  (y97 M (Sx.fz (⟨true, 1, [.c (.int .i64 n3), .c (.int .i64 n6), .c (.int .i64 n9)]⟩ : Sx))).bind fun r10 =>
  (Rz.toU r10).bind fun u11 =>
  (U.asI .i64 u11).bind fun n12 =>
  some (.val (.c (.int .i64 n12))) := by
  unfold y78 yrunM; rw [yrun_eq]; kernel_rfl
-- stutter/stutterbase.FirstInts
theorem y88_eq (M : YM) (a : U) (b : U) : y88 M a b =
  y88_1 M a b 0 := by
  unfold y88 yrunM; rw [yrun_eq]; kernel_rfl
theorem y88_1_eq (M : YM) (a : U) (b : U) (i : Int) : y88_1 M a b i =
  (U.len a).bind fun k1 =>
  (if (decide (i < ((k1 : Nat) : Int))) = true then
  (U.len b).bind fun k2 =>
  some (decide (i < ((k2 : Nat) : Int)))
  else
  some (decide (i < ((k1 : Nat) : Int)))).bind fun q3 =>
  (if q3 = true then
  (U.idx 1 a i).bind fun v4 =>
  (U.idx 1 b i).bind fun v5 =>
  (U.cell v4 0).bind fun c6 =>
  (U.asI .i64 c6).bind fun n7 =>
  (U.cell v5 0).bind fun c8 =>
  (U.asI .i64 c8).bind fun n9 =>
  (if (!decide (n7 = n9)) = true then
  (U.idx 1 a i).bind fun v10 =>
  (U.idx 1 b i).bind fun v11 =>
  (U.cell v10 0).bind fun c12 =>
  (U.asI .i64 c12).bind fun n13 =>
  (U.cell v11 0).bind fun c14 =>
  (U.asI .i64 c14).bind fun n15 =>
  (y107 M (decide (n13 < n15))).bind fun r16 =>
  (Rz.toU r16).bind fun u17 =>
  (U.asI .i64 u17).bind fun n18 =>
  some (.val (.c (.int .i64 (IntKind.wrap .i64 (1 - (IntKind.wrap .i64 (2 * n18)))))))
  else
  y88_1 M a b (IntKind.wrap .i64 (i + 1)))
  else
  (U.len a).bind fun k19 =>
  (U.len b).bind fun k20 =>
  (y107 M (decide (((k20 : Nat) : Int) < ((k19 : Nat) : Int)))).bind fun r21 =>
  (Rz.toU r21).bind fun u22 =>
  (U.asI .i64 u22).bind fun n23 =>
  (U.len a).bind fun k24 =>
  (U.len b).bind fun k25 =>
  (y107 M (decide (((k24 : Nat) : Int) < ((k25 : Nat) : Int)))).bind fun r26 =>
  (Rz.toU r26).bind fun u27 =>
  (U.asI .i64 u27).bind fun n28 =>
  some (.val (.c (.int .i64 (IntKind.wrap .i64 (n23 - n28)))))) := by
  unfold y88_1 yrunM; rw [yrun_eq]; kernel_rfl
-- stutter/stutterbase.edgeInts
theorem y89_eq (M : YM) (x_0 : Int) (x_1 : Int) (x_2 : Int) : y89 M x_0 x_1 x_2 =
  (if scals ([.c (.int .i64 x_0), .c (.int .i64 x_1), .c (.int .i64 x_2)]) = true then
  some (.sl (⟨true, 1, [.c (.int .i64 x_0), .c (.int .i64 x_1), .c (.int .i64 x_2)]⟩ : Sx))
  else
  none) := by
  unfold y89 yrunM; rw [yrun_eq]; kernel_rfl
-- slices.Index[[]int,int]
theorem y92_eq (M : YM) (s : U) (v : Int) : y92 M s v =
  (U.len s).bind fun k1 =>
  y92_1 M s v ((k1 : Nat) : Int) 0 := by
  unfold y92 yrunM; rw [yrun_eq]; kernel_rfl
theorem y92_1_eq (M : YM) (s : U) (v : Int) (x7 : Int) (x8 : Int) : y92_1 M s v x7 x8 =
  (if (decide (x8 < x7)) = true then
  (U.idx 1 s x8).bind fun v1 =>
  (U.cell v1 0).bind fun c2 =>
  (U.asI .i64 c2).bind fun n3 =>
  (if (decide (v = n3)) = true then
  some (.val (.c (.int .i64 x8)))
  else
  y92_1 M s v x7 (IntKind.wrap .i64 (x8 + 1)))
  else
  some (.val (.c (.int .i64 (-1))))) := by
  unfold y92_1 yrunM; rw [yrun_eq]; kernel_rfl
-- cmp.Or[int]
theorem y97_eq (M : YM) (vals : U) : y97 M vals =
  (U.len vals).bind fun k1 =>
  y97_1 M 0 vals ((k1 : Nat) : Int) 0 := by
  unfold y97 yrunM; rw [yrun_eq]; kernel_rfl
theorem y97_1_eq (M : YM) (zero : Int) (x6 : U) (x7 : Int) (x8 : Int) : y97_1 M zero x6 x7 x8 =
  (if (decide (x8 < x7)) = true then
  (U.idx 1 x6 x8).bind fun v1 =>
  (U.cell v1 0).bind fun c2 =>
  (U.asI .i64 c2).bind fun n3 =>
  (if (!decide (n3 = zero)) = true then
  some (.val (.c (.int .i64 n3)))
  else
  y97_1 M zero x6 x7 (IntKind.wrap .i64 (x8 + 1)))
  else
  some (.val (.c (.int .i64 zero)))) := by
  unfold y97_1 yrunM; rw [yrun_eq]; kernel_rfl
-- cmp.Compare[int]
theorem y98_eq (M : YM) (x : Int) (y : Int) : y98 M x y =
  (y110 M x).bind fun r1 =>
  (Rz.toU r1).bind fun u2 =>
  (U.asB u2).bind fun b3 =>
  (y110 M y).bind fun r4 =>
  (Rz.toU r4).bind fun u5 =>
  (U.asB u5).bind fun b6 =>
  (if b3 = true then
  (if b6 = true then
  some (.val (.c (.int .i64 0)))
  else
  some (.val (.c (.int .i64 (-1)))))
  else
  (if b6 = true then
  some (.val (.c (.int .i64 1)))
  else
  (if (decide (x < y)) = true then
  some (.val (.c (.int .i64 (-1))))
  else
  (if (decide (y < x)) = true then
  some (.val (.c (.int .i64 1)))
  else
  some (.val (.c (.int .i64 0))))))) := by
  unfold y98 yrunM; rw [yrun_eq]; kernel_rfl
-- stutter/stutterbase.One
theorem y107_eq (M : YM) (is : Bool) : y107 M is =
  (if is = true then
  some (.val (.c (.int .i64 1)))
  else
  some (.val (.c (.int .i64 0)))) := by
  unfold y107 yrunM; rw [yrun_eq]; kernel_rfl
-- cmp.isNaN[int]
theorem y110_eq (M : YM) (x : Int) : y110 M x =
  some (.val (.c (.bool (!decide (x = x))))) := by
  unfold y110 yrunM; rw [yrun_eq]; kernel_rfl
end Go.Proofs.Ythjjbkiejkhjfaa.R
