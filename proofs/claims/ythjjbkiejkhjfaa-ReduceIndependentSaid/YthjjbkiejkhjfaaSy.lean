import Derived.Test.YthjjbkiejkhjfaaRa
import Derived.Test.YthjjbkiejkhjfaaE9
import Derived.KernelRfl
namespace Go.Proofs.Ythjjbkiejkhjfaa.R
open Go Go.Proofs.Ythjjbkiejkhjfaa.Vm
set_option linter.unusedVariables false
set_option linter.unusedSimpArgs false
abbrev ks0 : List K0 := [(.int .i64), (.int .i64), (.int .i64), (.int .i64)]
abbrev ks1 : List K0 := [(.int .i64), .c, .c]
abbrev ks2 : List K0 := [(.int .i64), (.int .i64), (.int .i64)]
abbrev ks3 : List K0 := [.bool, .bool, .bool, .bool, .bool, .bool, .bool, .bool, .bool, .bool, .bool, .bool]
abbrev ks4 : List K0 := [.c, .c, .c, .c, .c, .c, .c, .c, .c, .c, .c, .c]
abbrev ks5 : List K0 := [.c, (.int .i64)]
abbrev ks6 : List K0 := [(.int .i64), (.int .i64), .c]
structure YM where
  ext : YCallT
def mdt : List (Nat × List RM) := [(3, [.sc]), (4, [.sc]), (5, [.sc]), (6, [.sc]), (7, [.sc]), (8, [.sc]), (9, [.sc]), (10, [.sc]), (11, [.sc]), (12, [.sc]), (13, [.va, .va]), (14, [.va]), (15, [.sls]), (16, [.sl]), (17, [.sc]), (18, [.sc]), (19, [.sc]), (20, [.sc]), (21, [.va, .va]), (22, [.sl]), (23, [.va, .va]), (24, [.va, .va]), (25, [.va, .va]), (26, [.sc]), (27, [.sc]), (28, [.sls]), (29, [.sls]), (30, [.va]), (31, [.va, .va]), (32, [.sls]), (33, [.va, .va]), (34, [.sc, .sc]), (35, [.sc]), (36, [.sl]), (37, [.sc]), (38, [.sc, .sc]), (39, [.sc]), (40, [.va, .va]), (41, [.sc]), (42, [.sls]), (43, [.sc]), (44, [.va, .va]), (45, [.sc]), (46, [.sc]), (47, [.va]), (48, [.sc]), (49, [.sc]), (50, [.sc]), (51, [.sc]), (52, [.va]), (53, [.va, .va]), (54, [.va]), (55, [.sc]), (56, [.sc]), (57, [.sls]), (58, [.sls]), (59, [.sls]), (60, [.sc]), (61, [.va]), (62, [.sls]), (63, [.sls]), (64, [.sc]), (65, [.sc]), (66, [.sc]), (67, [.va]), (68, [.sc]), (69, [.sc]), (70, [.sc, .sc]), (71, [.sls]), (72, [.sc]), (73, [.sc]), (74, [.sls]), (75, []), (76, [.va]), (77, [.sls]), (78, [.sc]), (79, [.sc]), (80, [.sc]), (81, [.va]), (82, [.sc]), (83, [.sc]), (84, [.sc]), (85, [.sc]), (86, [.va]), (87, [.va]), (88, [.sc]), (89, [.sls]), (90, [.sls]), (91, [.sc]), (92, [.sc]), (93, [.sc]), (94, [.va]), (95, [.sc]), (96, [.sc]), (97, [.sc]), (98, [.sc]), (99, [.sc]), (100, [.va]), (101, [.sc]), (102, [.sls]), (103, [.sc]), (104, [.sc]), (105, [.sc]), (106, [.va]), (107, [.sc]), (108, [.sc]), (109, [.sc]), (110, [.sc]), (111, [.sc, .sc])]
def md (f : FuncId) : List RM := (mdt.lookup f).getD []
def youts : List Nat := [10, 40, 44, 54, 61, 75, 76, 81, 87]
def yprog (f : FuncId) : Option RFunc := if youts.contains f then none else prog f
def yz (n : Nat) (l : List (Nat × Y)) : List Y := (List.range n).map fun p => (l.lookup p).getD .poison
noncomputable def yrunM (M : YM) : YRunT := Vm.yrun M.ext yprog md
noncomputable def ycall (M : YM) (f : FuncId) (us : List U) : YRs := yrunM M f 0 (us.map .val) []
-- stutter/stutterlaw19.ReduceIndependent
noncomputable def y6 (M : YM) (g_0 : Int) (g_1 g_2 : U) (a b : Int) : YRs := yrunM M 6 0 ([.val (.st [.c (.int .i64 g_0), g_1, g_2]), .val (.c (.int .i64 a)), .val (.c (.int .i64 b))]) []
-- stutter/stutterlaw19.few
noncomputable def y11 (M : YM) (g_0 : Int) (g_1 g_2 : U) : YRs := yrunM M 11 0 ([.val (.st [.c (.int .i64 g_0), g_1, g_2])]) []
-- stutter/stutterbase.OwnGraph
noncomputable def y14 (M : YM) (g_0 : Int) (g_1 g_2 : U) : YRs := yrunM M 14 0 ([.val (.st [.c (.int .i64 g_0), g_1, g_2])]) []
-- stutter/stutterbase.OwnInts
noncomputable def y15 (M : YM) (l : U) : YRs := yrunM M 15 0 ([.val l]) []
-- stutter/stutterref19.GraphErr
noncomputable def y17 (M : YM) (g_0 : Int) (g_1 g_2 : U) : YRs := yrunM M 17 0 ([.val (.st [.c (.int .i64 g_0), g_1, g_2])]) []
-- stutter/stutterbase.EqualInts
noncomputable def y27 (M : YM) (a b : U) : YRs := yrunM M 27 0 ([.val a, .val b]) []
noncomputable def y27_1 (M : YM) (a b : U) (i : Int) : YRs := yrunM M 27 1 (yz 26 [(0, .val a), (1, .val b), (5, .val (.c (.int .i64 i)))]) []
-- stutter/reduce.IndependentIn
noncomputable def y33 (M : YM) (x_0 : Int) (x_1 x_2 : U) : YRs := yrunM M 33 0 ([.val (.st [.c (.int .i64 x_0), x_1, x_2])]) []
noncomputable def y33_1 (M : YM) (x18 : U) (x19 : Int) (out : Sx) : YRs := yrunM M 33 1 (yz 40 [(5, .h 10000), (18, .val x18), (19, .val (.c (.int .i64 x19)))]) [.sl out]
noncomputable def y33_2 (M : YM) (x18 : U) (x19 : Int) (x22_0 x22_1 x22_2 x22_3 x22_4 x22_5 x22_6 x22_7 x22_8 x22_9 x22_10 x22_11 : U) (x23 : Int) (out own : Sx) : YRs := yrunM M 33 2 (yz 40 [(5, .h 10000), (8, .h 10001), (18, .val x18), (19, .val (.c (.int .i64 x19))), (22, .val (.st [x22_0, x22_1, x22_2, x22_3, x22_4, x22_5, x22_6, x22_7, x22_8, x22_9, x22_10, x22_11])), (23, .val (.c (.int .i64 x23)))]) [.sl out, .sl own]
noncomputable def y33_3 (M : YM) (x18 : U) (x19 : Int) (x22_0 x22_1 x22_2 x22_3 x22_4 x22_5 x22_6 x22_7 x22_8 x22_9 x22_10 x22_11 : U) (x23 : Int) (out own : Sx) : YRs := yrunM M 33 3 (yz 40 [(5, .h 10000), (8, .h 10001), (18, .val x18), (19, .val (.c (.int .i64 x19))), (22, .val (.st [x22_0, x22_1, x22_2, x22_3, x22_4, x22_5, x22_6, x22_7, x22_8, x22_9, x22_10, x22_11])), (23, .val (.c (.int .i64 x23)))]) [.sl out, .sl own]
-- stutter/reduce.DependenceOf
noncomputable def y34 (M : YM) (x_0 : Int) (x_1 x_2 : U) (a b : Int) : YRs := yrunM M 34 0 ([.val (.st [.c (.int .i64 x_0), x_1, x_2]), .val (.c (.int .i64 a)), .val (.c (.int .i64 b))]) []
-- stutter/stutterbase.EqualLists
noncomputable def y35 (M : YM) (a b : U) : YRs := yrunM M 35 0 ([.val a, .val b]) []
noncomputable def y35_1 (M : YM) (a b : U) (i : Int) : YRs := yrunM M 35 1 (yz 27 [(0, .val a), (1, .val b), (5, .val (.c (.int .i64 i)))]) []
-- stutter/stutterref19.Independent
noncomputable def y36 (M : YM) (g_0 : Int) (g_1 g_2 : U) : YRs := yrunM M 36 0 ([.val (.st [.c (.int .i64 g_0), g_1, g_2])]) []
noncomputable def y36_1 (M : YM) (g_0 : Int) (g_1 g_2 : U) (a : Int) (out : Sx) : YRs := yrunM M 36 1 (yz 38 [(1, .loc [.u (.c (.int .i64 g_0)), .u g_1, .u g_2]), (3, .h 10000), (4, .val (.c (.int .i64 a)))]) [.sl out]
noncomputable def y36_2 (M : YM) (g_0 : Int) (g_1 g_2 : U) (a b : Int) (out l : Sx) : YRs := yrunM M 36 2 (yz 38 [(1, .loc [.u (.c (.int .i64 g_0)), .u g_1, .u g_2]), (3, .h 10000), (4, .val (.c (.int .i64 a))), (5, .h 10001), (6, .val (.c (.int .i64 b)))]) [.sl out, .sl l]
noncomputable def y36_3 (M : YM) (g_0 : Int) (g_1 g_2 : U) (a b : Int) (out l : Sx) : YRs := yrunM M 36 3 (yz 38 [(1, .loc [.u (.c (.int .i64 g_0)), .u g_1, .u g_2]), (3, .h 10000), (4, .val (.c (.int .i64 a))), (5, .h 10001), (6, .val (.c (.int .i64 b)))]) [.sl out, .sl l]
-- stutter/stutterbase.Between
noncomputable def y37 (M : YM) (n low high : Int) : YRs := yrunM M 37 0 ([.val (.c (.int .i64 n)), .val (.c (.int .i64 low)), .val (.c (.int .i64 high))]) []
-- stutter/stutterref19.Clash
noncomputable def y38 (M : YM) (g_0 : Int) (g_1 g_2 : U) (a b : Int) : YRs := yrunM M 38 0 ([.val (.st [.c (.int .i64 g_0), g_1, g_2]), .val (.c (.int .i64 a)), .val (.c (.int .i64 b))]) []
noncomputable def y38_1 (M : YM) (a b g_0 : Int) (g_1 g_2 : U) (x6_0 x6_1 x6_2 x6_3 s : Int) : YRs := yrunM M 38 1 (yz 201 [(1, .val (.c (.int .i64 a))), (2, .val (.c (.int .i64 b))), (3, .loc [.u (.c (.int .i64 g_0)), .u g_1, .u g_2]), (6, .loc [.u (.c (.int .i64 x6_0)), .u (.c (.int .i64 x6_1)), .u (.c (.int .i64 x6_2)), .u (.c (.int .i64 x6_3))]), (8, .val (.c (.int .i64 s)))]) []
noncomputable def y38_2 (M : YM) (a b g_0 : Int) (g_1 g_2 : U) (x6_0 x6_1 x6_2 x6_3 s i : Int) (x y : Sx) : YRs := yrunM M 38 2 (yz 201 [(1, .val (.c (.int .i64 a))), (2, .val (.c (.int .i64 b))), (3, .loc [.u (.c (.int .i64 g_0)), .u g_1, .u g_2]), (6, .loc [.u (.c (.int .i64 x6_0)), .u (.c (.int .i64 x6_1)), .u (.c (.int .i64 x6_2)), .u (.c (.int .i64 x6_3))]), (8, .val (.c (.int .i64 s))), (9, .h 10000), (10, .h 10001), (11, .val (.c (.int .i64 i)))]) [.sl x, .sl y]
noncomputable def y38_3 (M : YM) (a b g_0 : Int) (g_1 g_2 : U) (x6_0 x6_1 x6_2 x6_3 s i k : Int) (x y : Sx) : YRs := yrunM M 38 3 (yz 201 [(1, .val (.c (.int .i64 a))), (2, .val (.c (.int .i64 b))), (3, .loc [.u (.c (.int .i64 g_0)), .u g_1, .u g_2]), (6, .loc [.u (.c (.int .i64 x6_0)), .u (.c (.int .i64 x6_1)), .u (.c (.int .i64 x6_2)), .u (.c (.int .i64 x6_3))]), (8, .val (.c (.int .i64 s))), (9, .h 10000), (10, .h 10001), (11, .val (.c (.int .i64 i))), (12, .val (.c (.int .i64 k)))]) [.sl x, .sl y]
noncomputable def y38_4 (M : YM) (a b g_0 : Int) (g_1 g_2 : U) (x6_0 x6_1 x6_2 x6_3 s i : Int) (x y : Sx) : YRs := yrunM M 38 4 (yz 201 [(1, .val (.c (.int .i64 a))), (2, .val (.c (.int .i64 b))), (3, .loc [.u (.c (.int .i64 g_0)), .u g_1, .u g_2]), (6, .loc [.u (.c (.int .i64 x6_0)), .u (.c (.int .i64 x6_1)), .u (.c (.int .i64 x6_2)), .u (.c (.int .i64 x6_3))]), (8, .val (.c (.int .i64 s))), (9, .h 10000), (10, .h 10001), (13, .val (.c (.int .i64 i)))]) [.sl x, .sl y]
noncomputable def y38_5 (M : YM) (a b g_0 : Int) (g_1 g_2 : U) (x6_0 x6_1 x6_2 x6_3 s i k : Int) (x y z : Sx) : YRs := yrunM M 38 5 (yz 201 [(1, .val (.c (.int .i64 a))), (2, .val (.c (.int .i64 b))), (3, .loc [.u (.c (.int .i64 g_0)), .u g_1, .u g_2]), (6, .loc [.u (.c (.int .i64 x6_0)), .u (.c (.int .i64 x6_1)), .u (.c (.int .i64 x6_2)), .u (.c (.int .i64 x6_3))]), (8, .val (.c (.int .i64 s))), (9, .h 10000), (10, .h 10001), (13, .val (.c (.int .i64 i))), (14, .h 10002), (15, .val (.c (.int .i64 k)))]) [.sl x, .sl y, .sl z]
noncomputable def y38_6 (M : YM) (a b g_0 : Int) (g_1 g_2 : U) (x6_0 x6_1 x6_2 x6_3 s best_0 best_1 best_2 best_3 : Int) (found : Bool) (k : Int) (y : Sx) : YRs := yrunM M 38 6 (yz 201 [(1, .val (.c (.int .i64 a))), (2, .val (.c (.int .i64 b))), (3, .loc [.u (.c (.int .i64 g_0)), .u g_1, .u g_2]), (6, .loc [.u (.c (.int .i64 x6_0)), .u (.c (.int .i64 x6_1)), .u (.c (.int .i64 x6_2)), .u (.c (.int .i64 x6_3))]), (8, .val (.c (.int .i64 s))), (10, .h 10000), (16, .loc [.u (.c (.int .i64 best_0)), .u (.c (.int .i64 best_1)), .u (.c (.int .i64 best_2)), .u (.c (.int .i64 best_3))]), (17, .val (.c (.bool found))), (18, .val (.c (.int .i64 k)))]) [.sl y]
noncomputable def y38_7 (M : YM) (a b g_0 : Int) (g_1 g_2 : U) (x6_0 x6_1 x6_2 x6_3 s best_0 best_1 best_2 best_3 : Int) (found : Bool) (k i : Int) (y z : Sx) : YRs := yrunM M 38 7 (yz 201 [(1, .val (.c (.int .i64 a))), (2, .val (.c (.int .i64 b))), (3, .loc [.u (.c (.int .i64 g_0)), .u g_1, .u g_2]), (6, .loc [.u (.c (.int .i64 x6_0)), .u (.c (.int .i64 x6_1)), .u (.c (.int .i64 x6_2)), .u (.c (.int .i64 x6_3))]), (8, .val (.c (.int .i64 s))), (10, .h 10000), (16, .loc [.u (.c (.int .i64 best_0)), .u (.c (.int .i64 best_1)), .u (.c (.int .i64 best_2)), .u (.c (.int .i64 best_3))]), (17, .val (.c (.bool found))), (18, .val (.c (.int .i64 k))), (19, .h 10001), (20, .val (.c (.int .i64 i)))]) [.sl y, .sl z]
noncomputable def y38_8 (M : YM) (a b g_0 : Int) (g_1 g_2 : U) (x6_0 x6_1 x6_2 x6_3 s best_0 best_1 best_2 best_3 : Int) (found : Bool) (k i : Int) (y z : Sx) : YRs := yrunM M 38 8 (yz 201 [(1, .val (.c (.int .i64 a))), (2, .val (.c (.int .i64 b))), (3, .loc [.u (.c (.int .i64 g_0)), .u g_1, .u g_2]), (6, .loc [.u (.c (.int .i64 x6_0)), .u (.c (.int .i64 x6_1)), .u (.c (.int .i64 x6_2)), .u (.c (.int .i64 x6_3))]), (8, .val (.c (.int .i64 s))), (10, .h 10000), (16, .loc [.u (.c (.int .i64 best_0)), .u (.c (.int .i64 best_1)), .u (.c (.int .i64 best_2)), .u (.c (.int .i64 best_3))]), (17, .val (.c (.bool found))), (18, .val (.c (.int .i64 k))), (19, .h 10001), (20, .val (.c (.int .i64 i)))]) [.sl y, .sl z]
-- stutter/stutterbase.Holds
noncomputable def y39 (M : YM) (l : U) (n : Int) : YRs := yrunM M 39 0 ([.val l, .val (.c (.int .i64 n))]) []
noncomputable def y39_1 (M : YM) (l : U) (n i : Int) : YRs := yrunM M 39 1 (yz 18 [(0, .val l), (1, .val (.c (.int .i64 n))), (5, .val (.c (.int .i64 i)))]) []
-- stutter/reduce.graphErr
noncomputable def y48 (M : YM) (g_0 : Int) (g_1 g_2 : U) : YRs := yrunM M 48 0 ([.val (.st [.c (.int .i64 g_0), g_1, g_2])]) []
noncomputable def y48_1 (M : YM) (g_0 : Int) (g_1 g_2 x18 : U) (x19 x20 : Int) : YRs := yrunM M 48 1 (yz 96 [(1, .loc [.u (.c (.int .i64 g_0)), .u g_1, .u g_2]), (18, .val x18), (19, .val (.c (.int .i64 x19))), (20, .val (.c (.int .i64 x20)))]) []
noncomputable def y48_2 (M : YM) (g_0 : Int) (g_1 g_2 x47 : U) (x48 x49 : Int) : YRs := yrunM M 48 2 (yz 96 [(1, .loc [.u (.c (.int .i64 g_0)), .u g_1, .u g_2]), (47, .val x47), (48, .val (.c (.int .i64 x48))), (49, .val (.c (.int .i64 x49)))]) []
-- stutter/reduce.either
noncomputable def y49 (M : YM) (l : U) : YRs := yrunM M 49 0 ([.val l]) []
noncomputable def y49_1 (M : YM) (x5 : U) (x6 x7 : Int) : YRs := yrunM M 49 1 (yz 15 [(5, .val x5), (6, .val (.c (.int .i64 x6))), (7, .val (.c (.int .i64 x7)))]) []
-- stutter/stutterbase.IsGraph
noncomputable def y55 (M : YM) (g_0 : Int) (g_1 g_2 : U) : YRs := yrunM M 55 0 ([.val (.st [.c (.int .i64 g_0), g_1, g_2])]) []
noncomputable def y55_1 (M : YM) (g_0 : Int) (g_1 g_2 : U) (i : Int) : YRs := yrunM M 55 1 (yz 110 [(1, .loc [.u (.c (.int .i64 g_0)), .u g_1, .u g_2]), (3, .val (.c (.int .i64 i)))]) []
noncomputable def y55_2 (M : YM) (g_0 : Int) (g_1 g_2 : U) (i : Int) : YRs := yrunM M 55 2 (yz 110 [(1, .loc [.u (.c (.int .i64 g_0)), .u g_1, .u g_2]), (4, .val (.c (.int .i64 i)))]) []
-- (*stutter/reduce.graph).dependent
noncomputable def y67 (M : YM) (g : U) : YRs := yrunM M 67 0 ([.val g]) []
noncomputable def y67_1 (M : YM) (g : U) (x2_0 x2_1 x2_2 x2_3 x2_4 x2_5 x2_6 x2_7 x2_8 x2_9 x2_10 x2_11 x2_12 x2_13 x2_14 x2_15 x2_16 x2_17 x2_18 x2_19 x2_20 x2_21 x2_22 x2_23 x2_24 x2_25 x2_26 x2_27 x2_28 x2_29 x2_30 x2_31 x2_32 x2_33 x2_34 x2_35 x2_36 x2_37 x2_38 x2_39 x2_40 x2_41 x2_42 x2_43 x2_44 x2_45 x2_46 x2_47 x2_48 x2_49 x2_50 x2_51 x2_52 x2_53 x2_54 x2_55 x2_56 x2_57 x2_58 x2_59 x2_60 x2_61 x2_62 x2_63 x2_64 x2_65 x2_66 x2_67 x2_68 x2_69 x2_70 x2_71 x2_72 x2_73 x2_74 x2_75 x2_76 x2_77 x2_78 x2_79 x2_80 x2_81 x2_82 x2_83 x2_84 x2_85 x2_86 x2_87 x2_88 x2_89 x2_90 x2_91 x2_92 x2_93 x2_94 x2_95 x2_96 x2_97 x2_98 x2_99 x2_100 x2_101 x2_102 x2_103 x2_104 x2_105 x2_106 x2_107 x2_108 x2_109 x2_110 x2_111 x2_112 x2_113 x2_114 x2_115 x2_116 x2_117 x2_118 x2_119 x2_120 x2_121 x2_122 x2_123 x2_124 x2_125 x2_126 x2_127 x2_128 x2_129 x2_130 x2_131 x2_132 x2_133 x2_134 x2_135 x2_136 x2_137 x2_138 x2_139 x2_140 x2_141 x2_142 x2_143 : Bool) (x8 : Int) (out : U) : YRs := yrunM M 67 1 (yz 39 [(0, .val g), (2, .loc [.u (.c (.bool x2_0)), .u (.c (.bool x2_1)), .u (.c (.bool x2_2)), .u (.c (.bool x2_3)), .u (.c (.bool x2_4)), .u (.c (.bool x2_5)), .u (.c (.bool x2_6)), .u (.c (.bool x2_7)), .u (.c (.bool x2_8)), .u (.c (.bool x2_9)), .u (.c (.bool x2_10)), .u (.c (.bool x2_11)), .u (.c (.bool x2_12)), .u (.c (.bool x2_13)), .u (.c (.bool x2_14)), .u (.c (.bool x2_15)), .u (.c (.bool x2_16)), .u (.c (.bool x2_17)), .u (.c (.bool x2_18)), .u (.c (.bool x2_19)), .u (.c (.bool x2_20)), .u (.c (.bool x2_21)), .u (.c (.bool x2_22)), .u (.c (.bool x2_23)), .u (.c (.bool x2_24)), .u (.c (.bool x2_25)), .u (.c (.bool x2_26)), .u (.c (.bool x2_27)), .u (.c (.bool x2_28)), .u (.c (.bool x2_29)), .u (.c (.bool x2_30)), .u (.c (.bool x2_31)), .u (.c (.bool x2_32)), .u (.c (.bool x2_33)), .u (.c (.bool x2_34)), .u (.c (.bool x2_35)), .u (.c (.bool x2_36)), .u (.c (.bool x2_37)), .u (.c (.bool x2_38)), .u (.c (.bool x2_39)), .u (.c (.bool x2_40)), .u (.c (.bool x2_41)), .u (.c (.bool x2_42)), .u (.c (.bool x2_43)), .u (.c (.bool x2_44)), .u (.c (.bool x2_45)), .u (.c (.bool x2_46)), .u (.c (.bool x2_47)), .u (.c (.bool x2_48)), .u (.c (.bool x2_49)), .u (.c (.bool x2_50)), .u (.c (.bool x2_51)), .u (.c (.bool x2_52)), .u (.c (.bool x2_53)), .u (.c (.bool x2_54)), .u (.c (.bool x2_55)), .u (.c (.bool x2_56)), .u (.c (.bool x2_57)), .u (.c (.bool x2_58)), .u (.c (.bool x2_59)), .u (.c (.bool x2_60)), .u (.c (.bool x2_61)), .u (.c (.bool x2_62)), .u (.c (.bool x2_63)), .u (.c (.bool x2_64)), .u (.c (.bool x2_65)), .u (.c (.bool x2_66)), .u (.c (.bool x2_67)), .u (.c (.bool x2_68)), .u (.c (.bool x2_69)), .u (.c (.bool x2_70)), .u (.c (.bool x2_71)), .u (.c (.bool x2_72)), .u (.c (.bool x2_73)), .u (.c (.bool x2_74)), .u (.c (.bool x2_75)), .u (.c (.bool x2_76)), .u (.c (.bool x2_77)), .u (.c (.bool x2_78)), .u (.c (.bool x2_79)), .u (.c (.bool x2_80)), .u (.c (.bool x2_81)), .u (.c (.bool x2_82)), .u (.c (.bool x2_83)), .u (.c (.bool x2_84)), .u (.c (.bool x2_85)), .u (.c (.bool x2_86)), .u (.c (.bool x2_87)), .u (.c (.bool x2_88)), .u (.c (.bool x2_89)), .u (.c (.bool x2_90)), .u (.c (.bool x2_91)), .u (.c (.bool x2_92)), .u (.c (.bool x2_93)), .u (.c (.bool x2_94)), .u (.c (.bool x2_95)), .u (.c (.bool x2_96)), .u (.c (.bool x2_97)), .u (.c (.bool x2_98)), .u (.c (.bool x2_99)), .u (.c (.bool x2_100)), .u (.c (.bool x2_101)), .u (.c (.bool x2_102)), .u (.c (.bool x2_103)), .u (.c (.bool x2_104)), .u (.c (.bool x2_105)), .u (.c (.bool x2_106)), .u (.c (.bool x2_107)), .u (.c (.bool x2_108)), .u (.c (.bool x2_109)), .u (.c (.bool x2_110)), .u (.c (.bool x2_111)), .u (.c (.bool x2_112)), .u (.c (.bool x2_113)), .u (.c (.bool x2_114)), .u (.c (.bool x2_115)), .u (.c (.bool x2_116)), .u (.c (.bool x2_117)), .u (.c (.bool x2_118)), .u (.c (.bool x2_119)), .u (.c (.bool x2_120)), .u (.c (.bool x2_121)), .u (.c (.bool x2_122)), .u (.c (.bool x2_123)), .u (.c (.bool x2_124)), .u (.c (.bool x2_125)), .u (.c (.bool x2_126)), .u (.c (.bool x2_127)), .u (.c (.bool x2_128)), .u (.c (.bool x2_129)), .u (.c (.bool x2_130)), .u (.c (.bool x2_131)), .u (.c (.bool x2_132)), .u (.c (.bool x2_133)), .u (.c (.bool x2_134)), .u (.c (.bool x2_135)), .u (.c (.bool x2_136)), .u (.c (.bool x2_137)), .u (.c (.bool x2_138)), .u (.c (.bool x2_139)), .u (.c (.bool x2_140)), .u (.c (.bool x2_141)), .u (.c (.bool x2_142)), .u (.c (.bool x2_143))]), (3, .h 10000), (8, .val (.c (.int .i64 x8)))]) [.oa out]
noncomputable def y67_2 (M : YM) (g : U) (x2_0 x2_1 x2_2 x2_3 x2_4 x2_5 x2_6 x2_7 x2_8 x2_9 x2_10 x2_11 x2_12 x2_13 x2_14 x2_15 x2_16 x2_17 x2_18 x2_19 x2_20 x2_21 x2_22 x2_23 x2_24 x2_25 x2_26 x2_27 x2_28 x2_29 x2_30 x2_31 x2_32 x2_33 x2_34 x2_35 x2_36 x2_37 x2_38 x2_39 x2_40 x2_41 x2_42 x2_43 x2_44 x2_45 x2_46 x2_47 x2_48 x2_49 x2_50 x2_51 x2_52 x2_53 x2_54 x2_55 x2_56 x2_57 x2_58 x2_59 x2_60 x2_61 x2_62 x2_63 x2_64 x2_65 x2_66 x2_67 x2_68 x2_69 x2_70 x2_71 x2_72 x2_73 x2_74 x2_75 x2_76 x2_77 x2_78 x2_79 x2_80 x2_81 x2_82 x2_83 x2_84 x2_85 x2_86 x2_87 x2_88 x2_89 x2_90 x2_91 x2_92 x2_93 x2_94 x2_95 x2_96 x2_97 x2_98 x2_99 x2_100 x2_101 x2_102 x2_103 x2_104 x2_105 x2_106 x2_107 x2_108 x2_109 x2_110 x2_111 x2_112 x2_113 x2_114 x2_115 x2_116 x2_117 x2_118 x2_119 x2_120 x2_121 x2_122 x2_123 x2_124 x2_125 x2_126 x2_127 x2_128 x2_129 x2_130 x2_131 x2_132 x2_133 x2_134 x2_135 x2_136 x2_137 x2_138 x2_139 x2_140 x2_141 x2_142 x2_143 : Bool) (a x8 x15 x16 : Int) (out : U) : YRs := yrunM M 67 2 (yz 39 [(0, .val g), (2, .loc [.u (.c (.bool x2_0)), .u (.c (.bool x2_1)), .u (.c (.bool x2_2)), .u (.c (.bool x2_3)), .u (.c (.bool x2_4)), .u (.c (.bool x2_5)), .u (.c (.bool x2_6)), .u (.c (.bool x2_7)), .u (.c (.bool x2_8)), .u (.c (.bool x2_9)), .u (.c (.bool x2_10)), .u (.c (.bool x2_11)), .u (.c (.bool x2_12)), .u (.c (.bool x2_13)), .u (.c (.bool x2_14)), .u (.c (.bool x2_15)), .u (.c (.bool x2_16)), .u (.c (.bool x2_17)), .u (.c (.bool x2_18)), .u (.c (.bool x2_19)), .u (.c (.bool x2_20)), .u (.c (.bool x2_21)), .u (.c (.bool x2_22)), .u (.c (.bool x2_23)), .u (.c (.bool x2_24)), .u (.c (.bool x2_25)), .u (.c (.bool x2_26)), .u (.c (.bool x2_27)), .u (.c (.bool x2_28)), .u (.c (.bool x2_29)), .u (.c (.bool x2_30)), .u (.c (.bool x2_31)), .u (.c (.bool x2_32)), .u (.c (.bool x2_33)), .u (.c (.bool x2_34)), .u (.c (.bool x2_35)), .u (.c (.bool x2_36)), .u (.c (.bool x2_37)), .u (.c (.bool x2_38)), .u (.c (.bool x2_39)), .u (.c (.bool x2_40)), .u (.c (.bool x2_41)), .u (.c (.bool x2_42)), .u (.c (.bool x2_43)), .u (.c (.bool x2_44)), .u (.c (.bool x2_45)), .u (.c (.bool x2_46)), .u (.c (.bool x2_47)), .u (.c (.bool x2_48)), .u (.c (.bool x2_49)), .u (.c (.bool x2_50)), .u (.c (.bool x2_51)), .u (.c (.bool x2_52)), .u (.c (.bool x2_53)), .u (.c (.bool x2_54)), .u (.c (.bool x2_55)), .u (.c (.bool x2_56)), .u (.c (.bool x2_57)), .u (.c (.bool x2_58)), .u (.c (.bool x2_59)), .u (.c (.bool x2_60)), .u (.c (.bool x2_61)), .u (.c (.bool x2_62)), .u (.c (.bool x2_63)), .u (.c (.bool x2_64)), .u (.c (.bool x2_65)), .u (.c (.bool x2_66)), .u (.c (.bool x2_67)), .u (.c (.bool x2_68)), .u (.c (.bool x2_69)), .u (.c (.bool x2_70)), .u (.c (.bool x2_71)), .u (.c (.bool x2_72)), .u (.c (.bool x2_73)), .u (.c (.bool x2_74)), .u (.c (.bool x2_75)), .u (.c (.bool x2_76)), .u (.c (.bool x2_77)), .u (.c (.bool x2_78)), .u (.c (.bool x2_79)), .u (.c (.bool x2_80)), .u (.c (.bool x2_81)), .u (.c (.bool x2_82)), .u (.c (.bool x2_83)), .u (.c (.bool x2_84)), .u (.c (.bool x2_85)), .u (.c (.bool x2_86)), .u (.c (.bool x2_87)), .u (.c (.bool x2_88)), .u (.c (.bool x2_89)), .u (.c (.bool x2_90)), .u (.c (.bool x2_91)), .u (.c (.bool x2_92)), .u (.c (.bool x2_93)), .u (.c (.bool x2_94)), .u (.c (.bool x2_95)), .u (.c (.bool x2_96)), .u (.c (.bool x2_97)), .u (.c (.bool x2_98)), .u (.c (.bool x2_99)), .u (.c (.bool x2_100)), .u (.c (.bool x2_101)), .u (.c (.bool x2_102)), .u (.c (.bool x2_103)), .u (.c (.bool x2_104)), .u (.c (.bool x2_105)), .u (.c (.bool x2_106)), .u (.c (.bool x2_107)), .u (.c (.bool x2_108)), .u (.c (.bool x2_109)), .u (.c (.bool x2_110)), .u (.c (.bool x2_111)), .u (.c (.bool x2_112)), .u (.c (.bool x2_113)), .u (.c (.bool x2_114)), .u (.c (.bool x2_115)), .u (.c (.bool x2_116)), .u (.c (.bool x2_117)), .u (.c (.bool x2_118)), .u (.c (.bool x2_119)), .u (.c (.bool x2_120)), .u (.c (.bool x2_121)), .u (.c (.bool x2_122)), .u (.c (.bool x2_123)), .u (.c (.bool x2_124)), .u (.c (.bool x2_125)), .u (.c (.bool x2_126)), .u (.c (.bool x2_127)), .u (.c (.bool x2_128)), .u (.c (.bool x2_129)), .u (.c (.bool x2_130)), .u (.c (.bool x2_131)), .u (.c (.bool x2_132)), .u (.c (.bool x2_133)), .u (.c (.bool x2_134)), .u (.c (.bool x2_135)), .u (.c (.bool x2_136)), .u (.c (.bool x2_137)), .u (.c (.bool x2_138)), .u (.c (.bool x2_139)), .u (.c (.bool x2_140)), .u (.c (.bool x2_141)), .u (.c (.bool x2_142)), .u (.c (.bool x2_143))]), (3, .h 10000), (4, .val (.c (.int .i64 a))), (8, .val (.c (.int .i64 x8))), (15, .val (.c (.int .i64 x15))), (16, .val (.c (.int .i64 x16)))]) [.oa out]
-- stutter/reduce.unless
noncomputable def y68 (M : YM) (holds : Bool) (e : Int) : YRs := yrunM M 68 0 ([.val (.c (.bool holds)), .val (.c (.int .i64 e))]) []
-- stutter/reduce.in
noncomputable def y69 (M : YM) (n lo hi : Int) : YRs := yrunM M 69 0 ([.val (.c (.int .i64 n)), .val (.c (.int .i64 lo)), .val (.c (.int .i64 hi))]) []
-- (*stutter/reduce.graph).clash
noncomputable def y70 (M : YM) (g : U) (a b : Int) : YRs := yrunM M 70 0 ([.val g, .val (.c (.int .i64 a)), .val (.c (.int .i64 b))]) []
noncomputable def y70_1 (M : YM) (g : U) (a b x6_0 x6_1 x6_2 x6_3 x26 x27 : Int) : YRs := yrunM M 70 1 (yz 217 [(0, .val g), (1, .val (.c (.int .i64 a))), (2, .val (.c (.int .i64 b))), (6, .loc [.u (.c (.int .i64 x6_0)), .u (.c (.int .i64 x6_1)), .u (.c (.int .i64 x6_2)), .u (.c (.int .i64 x6_3))]), (26, .val (.c (.int .i64 x26))), (27, .val (.c (.int .i64 x27)))]) []
noncomputable def y70_2 (M : YM) (g : U) (a b x6_0 x6_1 x6_2 x6_3 s x26 x27 : Int) (x62 : U) (x63 x64 : Int) : YRs := yrunM M 70 2 (yz 217 [(0, .val g), (1, .val (.c (.int .i64 a))), (2, .val (.c (.int .i64 b))), (6, .loc [.u (.c (.int .i64 x6_0)), .u (.c (.int .i64 x6_1)), .u (.c (.int .i64 x6_2)), .u (.c (.int .i64 x6_3))]), (8, .val (.c (.int .i64 s))), (26, .val (.c (.int .i64 x26))), (27, .val (.c (.int .i64 x27))), (62, .val x62), (63, .val (.c (.int .i64 x63))), (64, .val (.c (.int .i64 x64)))]) []
noncomputable def y70_3 (M : YM) (g : U) (a b x6_0 x6_1 x6_2 x6_3 s i x26 x27 : Int) (x62 : U) (x63 x64 : Int) (x76 : U) (x77 x78 : Int) : YRs := yrunM M 70 3 (yz 217 [(0, .val g), (1, .val (.c (.int .i64 a))), (2, .val (.c (.int .i64 b))), (6, .loc [.u (.c (.int .i64 x6_0)), .u (.c (.int .i64 x6_1)), .u (.c (.int .i64 x6_2)), .u (.c (.int .i64 x6_3))]), (8, .val (.c (.int .i64 s))), (10, .val (.c (.int .i64 i))), (26, .val (.c (.int .i64 x26))), (27, .val (.c (.int .i64 x27))), (62, .val x62), (63, .val (.c (.int .i64 x63))), (64, .val (.c (.int .i64 x64))), (76, .val x76), (77, .val (.c (.int .i64 x77))), (78, .val (.c (.int .i64 x78)))]) []
noncomputable def y70_4 (M : YM) (g : U) (a b x6_0 x6_1 x6_2 x6_3 s x26 x27 : Int) (x119 : U) (x120 x121 : Int) : YRs := yrunM M 70 4 (yz 217 [(0, .val g), (1, .val (.c (.int .i64 a))), (2, .val (.c (.int .i64 b))), (6, .loc [.u (.c (.int .i64 x6_0)), .u (.c (.int .i64 x6_1)), .u (.c (.int .i64 x6_2)), .u (.c (.int .i64 x6_3))]), (8, .val (.c (.int .i64 s))), (26, .val (.c (.int .i64 x26))), (27, .val (.c (.int .i64 x27))), (119, .val x119), (120, .val (.c (.int .i64 x120))), (121, .val (.c (.int .i64 x121)))]) []
noncomputable def y70_5 (M : YM) (g : U) (a b x6_0 x6_1 x6_2 x6_3 s i x26 x27 : Int) (x119 : U) (x120 x121 : Int) (x141 : U) (x142 x143 : Int) : YRs := yrunM M 70 5 (yz 217 [(0, .val g), (1, .val (.c (.int .i64 a))), (2, .val (.c (.int .i64 b))), (6, .loc [.u (.c (.int .i64 x6_0)), .u (.c (.int .i64 x6_1)), .u (.c (.int .i64 x6_2)), .u (.c (.int .i64 x6_3))]), (8, .val (.c (.int .i64 s))), (14, .val (.c (.int .i64 i))), (26, .val (.c (.int .i64 x26))), (27, .val (.c (.int .i64 x27))), (119, .val x119), (120, .val (.c (.int .i64 x120))), (121, .val (.c (.int .i64 x121))), (141, .val x141), (142, .val (.c (.int .i64 x142))), (143, .val (.c (.int .i64 x143)))]) []
noncomputable def y70_6 (M : YM) (g : U) (a b x6_0 x6_1 x6_2 x6_3 s x26 x27 : Int) (x167 : U) (x168 x169 : Int) (found : Sx) : YRs := yrunM M 70 6 (yz 217 [(0, .val g), (1, .val (.c (.int .i64 a))), (2, .val (.c (.int .i64 b))), (6, .loc [.u (.c (.int .i64 x6_0)), .u (.c (.int .i64 x6_1)), .u (.c (.int .i64 x6_2)), .u (.c (.int .i64 x6_3))]), (8, .val (.c (.int .i64 s))), (17, .h 10000), (26, .val (.c (.int .i64 x26))), (27, .val (.c (.int .i64 x27))), (167, .val x167), (168, .val (.c (.int .i64 x168))), (169, .val (.c (.int .i64 x169)))]) [.sl found]
noncomputable def y70_7 (M : YM) (g : U) (a b x6_0 x6_1 x6_2 x6_3 s k x26 x27 : Int) (x167 : U) (x168 x169 : Int) (x189 : U) (x190 x191 : Int) (found : Sx) : YRs := yrunM M 70 7 (yz 217 [(0, .val g), (1, .val (.c (.int .i64 a))), (2, .val (.c (.int .i64 b))), (6, .loc [.u (.c (.int .i64 x6_0)), .u (.c (.int .i64 x6_1)), .u (.c (.int .i64 x6_2)), .u (.c (.int .i64 x6_3))]), (8, .val (.c (.int .i64 s))), (17, .h 10000), (19, .val (.c (.int .i64 k))), (26, .val (.c (.int .i64 x26))), (27, .val (.c (.int .i64 x27))), (167, .val x167), (168, .val (.c (.int .i64 x168))), (169, .val (.c (.int .i64 x169))), (189, .val x189), (190, .val (.c (.int .i64 x190))), (191, .val (.c (.int .i64 x191)))]) [.sl found]
noncomputable def y70_8 (M : YM) (g : U) (a b x6_0 x6_1 x6_2 x6_3 s k x26 x27 : Int) (x167 : U) (x168 x169 : Int) (x189 : U) (x190 x191 : Int) (found : Sx) : YRs := yrunM M 70 8 (yz 217 [(0, .val g), (1, .val (.c (.int .i64 a))), (2, .val (.c (.int .i64 b))), (6, .loc [.u (.c (.int .i64 x6_0)), .u (.c (.int .i64 x6_1)), .u (.c (.int .i64 x6_2)), .u (.c (.int .i64 x6_3))]), (8, .val (.c (.int .i64 s))), (17, .h 10000), (19, .val (.c (.int .i64 k))), (26, .val (.c (.int .i64 x26))), (27, .val (.c (.int .i64 x27))), (167, .val x167), (168, .val (.c (.int .i64 x168))), (169, .val (.c (.int .i64 x169))), (189, .val x189), (190, .val (.c (.int .i64 x190))), (191, .val (.c (.int .i64 x191)))]) [.sl found]
-- stutter/stutterref19.steps
noncomputable def y71 (M : YM) (g_0 : Int) (g_1 g_2 : U) (s a : Int) : YRs := yrunM M 71 0 ([.val (.st [.c (.int .i64 g_0), g_1, g_2]), .val (.c (.int .i64 s)), .val (.c (.int .i64 a))]) []
noncomputable def y71_1 (M : YM) (s a g_0 : Int) (g_1 g_2 : U) (i : Int) (out : Sx) : YRs := yrunM M 71 1 (yz 39 [(1, .val (.c (.int .i64 s))), (2, .val (.c (.int .i64 a))), (3, .loc [.u (.c (.int .i64 g_0)), .u g_1, .u g_2]), (7, .h 10000), (8, .val (.c (.int .i64 i)))]) [.sl out]
noncomputable def y71_2 (M : YM) (s a g_0 : Int) (g_1 g_2 : U) (i : Int) (out : Sx) : YRs := yrunM M 71 2 (yz 39 [(1, .val (.c (.int .i64 s))), (2, .val (.c (.int .i64 a))), (3, .loc [.u (.c (.int .i64 g_0)), .u g_1, .u g_2]), (7, .h 10000), (8, .val (.c (.int .i64 i)))]) [.sl out]
-- stutter/stutterref19.meets
noncomputable def y72 (M : YM) (g_0 : Int) (g_1 g_2 : U) (x y : Int) : YRs := yrunM M 72 0 ([.val (.st [.c (.int .i64 g_0), g_1, g_2]), .val (.c (.int .i64 x)), .val (.c (.int .i64 y))]) []
noncomputable def y72_1 (M : YM) (g_0 : Int) (g_1 g_2 : U) (t_0 t_1 t_2 u_0 u_1 u_2 v : Int) : YRs := yrunM M 72 1 (yz 42 [(3, .loc [.u (.c (.int .i64 g_0)), .u g_1, .u g_2]), (7, .loc [.u (.c (.int .i64 t_0)), .u (.c (.int .i64 t_1)), .u (.c (.int .i64 t_2))]), (8, .loc [.u (.c (.int .i64 u_0)), .u (.c (.int .i64 u_1)), .u (.c (.int .i64 u_2))]), (9, .val (.c (.int .i64 v)))]) []
-- stutter/stutterref19.turns
noncomputable def y73 (M : YM) (g_0 : Int) (g_1 g_2 : U) (x y : Int) : YRs := yrunM M 73 0 ([.val (.st [.c (.int .i64 g_0), g_1, g_2]), .val (.c (.int .i64 x)), .val (.c (.int .i64 y))]) []
noncomputable def y73_1 (M : YM) (g_0 : Int) (g_1 g_2 : U) (first_0 first_1 first_2 second_0 second_1 second_2 u : Int) : YRs := yrunM M 73 1 (yz 42 [(3, .loc [.u (.c (.int .i64 g_0)), .u g_1, .u g_2]), (7, .loc [.u (.c (.int .i64 first_0)), .u (.c (.int .i64 first_1)), .u (.c (.int .i64 first_2))]), (8, .loc [.u (.c (.int .i64 second_0)), .u (.c (.int .i64 second_1)), .u (.c (.int .i64 second_2))]), (9, .val (.c (.int .i64 u)))]) []
-- stutter/reduce.steps
noncomputable def y78 (M : YM) (a_0 a_1 a_2 b_0 b_1 b_2 : Int) : YRs := yrunM M 78 0 ([.val (.st [.c (.int .i64 a_0), .c (.int .i64 a_1), .c (.int .i64 a_2)]), .val (.st [.c (.int .i64 b_0), .c (.int .i64 b_1), .c (.int .i64 b_2)])]) []
-- slices.ContainsFunc[[]int,int]
noncomputable def y79 (M : YM) (s f : U) : YRs := yrunM M 79 0 ([.val s, .val f]) []
-- slices.IndexFunc[[]int,int]
noncomputable def y82 (M : YM) (s f : U) : YRs := yrunM M 82 0 ([.val s, .val f]) []
noncomputable def y82_1 (M : YM) (s f : U) (x7 x8 : Int) : YRs := yrunM M 82 1 (yz 19 [(0, .val s), (1, .val f), (7, .val (.c (.int .i64 x7))), (8, .val (.c (.int .i64 x8)))]) []
-- stutter/stutterbase.FirstInts
noncomputable def y88 (M : YM) (a b : U) : YRs := yrunM M 88 0 ([.val a, .val b]) []
noncomputable def y88_1 (M : YM) (a b : U) (i : Int) : YRs := yrunM M 88 1 (yz 52 [(0, .val a), (1, .val b), (5, .val (.c (.int .i64 i)))]) []
-- stutter/stutterbase.edgeInts
noncomputable def y89 (M : YM) (x_0 x_1 x_2 : Int) : YRs := yrunM M 89 0 ([.val (.st [.c (.int .i64 x_0), .c (.int .i64 x_1), .c (.int .i64 x_2)])]) []
-- (*stutter/reduce.graph).meets
noncomputable def y93 (M : YM) (g : U) (s a u b : Int) : YRs := yrunM M 93 0 ([.val g, .val (.c (.int .i64 s)), .val (.c (.int .i64 a)), .val (.c (.int .i64 u)), .val (.c (.int .i64 b))]) []
noncomputable def y93_1 (M : YM) (g : U) (u b : Int) (x21 : U) (x22 x23 : Int) : YRs := yrunM M 93 1 (yz 41 [(0, .val g), (3, .val (.c (.int .i64 u))), (4, .val (.c (.int .i64 b))), (21, .val x21), (22, .val (.c (.int .i64 x22))), (23, .val (.c (.int .i64 x23)))]) []
-- (*stutter/reduce.graph).swaps
noncomputable def y94 (M : YM) (g : U) (s a b : Int) : YRs := yrunM M 94 0 ([.val g, .val (.c (.int .i64 s)), .val (.c (.int .i64 a)), .val (.c (.int .i64 b))]) []
-- slices.MinFunc[[]stutter/api.ReduceClash,stutter/api.ReduceClash]
noncomputable def y95 (M : YM) (x cmp : U) : YRs := yrunM M 95 0 ([.val x, .val cmp]) []
noncomputable def y95_1 (M : YM) (x cmp : U) (x4_0 x4_1 x4_2 x4_3 : Int) : YRs := yrunM M 95 1 (yz 33 [(0, .val x), (1, .val cmp), (4, .loc [.u (.c (.int .i64 x4_0)), .u (.c (.int .i64 x4_1)), .u (.c (.int .i64 x4_2)), .u (.c (.int .i64 x4_3))])]) []
noncomputable def y95_2 (M : YM) (x cmp : U) (x4_0 x4_1 x4_2 x4_3 m_0 m_1 m_2 m_3 i : Int) : YRs := yrunM M 95 2 (yz 33 [(0, .val x), (1, .val cmp), (4, .loc [.u (.c (.int .i64 x4_0)), .u (.c (.int .i64 x4_1)), .u (.c (.int .i64 x4_2)), .u (.c (.int .i64 x4_3))]), (5, .loc [.u (.c (.int .i64 m_0)), .u (.c (.int .i64 m_1)), .u (.c (.int .i64 m_2)), .u (.c (.int .i64 m_3))]), (6, .val (.c (.int .i64 i)))]) []
noncomputable def y95_3 (M : YM) (x cmp : U) (x4_0 x4_1 x4_2 x4_3 m_0 m_1 m_2 m_3 i : Int) : YRs := yrunM M 95 3 (yz 33 [(0, .val x), (1, .val cmp), (4, .loc [.u (.c (.int .i64 x4_0)), .u (.c (.int .i64 x4_1)), .u (.c (.int .i64 x4_2)), .u (.c (.int .i64 x4_3))]), (5, .loc [.u (.c (.int .i64 m_0)), .u (.c (.int .i64 m_1)), .u (.c (.int .i64 m_2)), .u (.c (.int .i64 m_3))]), (6, .val (.c (.int .i64 i)))]) []
-- (*stutter/reduce.graph).clash$1
noncomputable def y96 (M : YM) (x_0 x_1 x_2 x_3 y_0 y_1 y_2 y_3 : Int) : YRs := yrunM M 96 0 ([.val (.st [.c (.int .i64 x_0), .c (.int .i64 x_1), .c (.int .i64 x_2), .c (.int .i64 x_3)]), .val (.st [.c (.int .i64 y_0), .c (.int .i64 y_1), .c (.int .i64 y_2), .c (.int .i64 y_3)])]) []
-- cmp.Or[int]
noncomputable def y97 (M : YM) (vals : U) : YRs := yrunM M 97 0 ([.val vals]) []
noncomputable def y97_1 (M : YM) (zero : Int) (x6 : U) (x7 x8 : Int) : YRs := yrunM M 97 1 (yz 18 [(3, .val (.c (.int .i64 zero))), (6, .val x6), (7, .val (.c (.int .i64 x7))), (8, .val (.c (.int .i64 x8)))]) []
-- cmp.Compare[int]
noncomputable def y98 (M : YM) (x y : Int) : YRs := yrunM M 98 0 ([.val (.c (.int .i64 x)), .val (.c (.int .i64 y))]) []
-- stutter/stutterref19.hasStep
noncomputable def y99 (M : YM) (g_0 : Int) (g_1 g_2 : U) (vfrom a to : Int) : YRs := yrunM M 99 0 ([.val (.st [.c (.int .i64 g_0), g_1, g_2]), .val (.c (.int .i64 vfrom)), .val (.c (.int .i64 a)), .val (.c (.int .i64 to))]) []
noncomputable def y99_1 (M : YM) (to g_0 : Int) (g_1 g_2 : U) (i : Int) (l : Sx) : YRs := yrunM M 99 1 (yz 32 [(3, .val (.c (.int .i64 to))), (4, .loc [.u (.c (.int .i64 g_0)), .u g_1, .u g_2]), (9, .h 10000), (10, .val (.c (.int .i64 i)))]) [.sl l]
-- stutter/stutterbase.One
noncomputable def y107 (M : YM) (is : Bool) : YRs := yrunM M 107 0 ([.val (.c (.bool is))]) []
-- (*stutter/reduce.graph).has
noncomputable def y108 (M : YM) (g : U) (vfrom to action : Int) : YRs := yrunM M 108 0 ([.val g, .val (.c (.int .i64 vfrom)), .val (.c (.int .i64 to)), .val (.c (.int .i64 action))]) []
-- (*stutter/reduce.graph).swaps$1
noncomputable def y109 (M : YM) (i : Int) (x1 x2 x3 : U) : YRs := yrunM M 109 0 ([.val (.c (.int .i64 i)), .val x1, .val x2, .val x3]) []
-- cmp.isNaN[int]
noncomputable def y110 (M : YM) (x : Int) : YRs := yrunM M 110 0 ([.val (.c (.int .i64 x))]) []
-- slices.BinarySearchFunc[[]stutter/api.Edge,stutter/api.Edge,stutter/api.Edge]
noncomputable def y111 (M : YM) (x : U) (target_0 target_1 target_2 : Int) (cmp : U) : YRs := yrunM M 111 0 ([.val x, .val (.st [.c (.int .i64 target_0), .c (.int .i64 target_1), .c (.int .i64 target_2)]), .val cmp]) []
noncomputable def y111_1 (M : YM) (x cmp : U) (target_0 target_1 target_2 n i j : Int) : YRs := yrunM M 111 1 (yz 49 [(0, .val x), (2, .val cmp), (4, .loc [.u (.c (.int .i64 target_0)), .u (.c (.int .i64 target_1)), .u (.c (.int .i64 target_2))]), (8, .val (.c (.int .i64 n))), (9, .val (.c (.int .i64 i))), (10, .val (.c (.int .i64 j)))]) []
noncomputable def y111_2 (M : YM) (x cmp : U) (target_0 target_1 target_2 n i j : Int) : YRs := yrunM M 111 2 (yz 49 [(0, .val x), (2, .val cmp), (4, .loc [.u (.c (.int .i64 target_0)), .u (.c (.int .i64 target_1)), .u (.c (.int .i64 target_2))]), (8, .val (.c (.int .i64 n))), (9, .val (.c (.int .i64 i))), (10, .val (.c (.int .i64 j)))]) []
-- stutter/stutterlaw19.awake (outside)
noncomputable def y10 (M : YM) : YRs := yrunM M 10 0 [] []
-- stutter/reduce.open (outside)
noncomputable def y61 (M : YM) (g_0 : Int) (g_1 g_2 : U) : YRs := yrunM M 61 0 [.val (.st [.c (.int .i64 g_0), g_1, g_2])] []
-- stutter/stutterlaw19.ReduceIndependent
theorem y6_eq (M : YM) (g_0 : Int) (g_1 g_2 : U) (a b : Int) : y6 M g_0 g_1 g_2 a b =
  (y10 M).bind fun r1 =>
  (Rz.toU r1).bind fun u2 =>
  (U.asB u2).bind fun b3 =>
  (if (!b3) = true then
  some (.val (.c (.bool false)))
  else
  (y11 M g_0 g_1 g_2).bind fun r4 =>
  (Rz.toU r4).bind fun u5 =>
  (U.asB u5).bind fun b6 =>
  (if (!b6) = true then
  some (.val (.c (.bool true)))
  else
  (y14 M g_0 g_1 g_2).bind fun r7 =>
  (Rz.toU r7).bind fun u8 =>
  (U.exact u8 ks1).bind fun f9 =>
  (y33 M ((f9 0).i) (f9 1) (f9 2)).bind fun r10 =>
  (Rz.asTup r10).bind fun t11 =>
  (t11[0]?).bind fun u12 =>
  (U.one u12).bind fun u13 =>
  (t11[1]?).bind fun u14 =>
  (U.asI .i64 u14).bind fun n15 =>
  (y14 M g_0 g_1 g_2).bind fun r16 =>
  (Rz.toU r16).bind fun u17 =>
  (U.exact u17 ks1).bind fun f18 =>
  (y34 M ((f18 0).i) (f18 1) (f18 2) a b).bind fun r19 =>
  (Rz.asTup r19).bind fun t20 =>
  (t20[0]?).bind fun u21 =>
  (U.exact u21 ks0).bind fun f22 =>
  (t20[1]?).bind fun u23 =>
  (U.asI .i64 u23).bind fun n24 =>
  (y17 M g_0 g_1 g_2).bind fun r25 =>
  (Rz.toU r25).bind fun u26 =>
  (U.asI .i64 u26).bind fun n27 =>
  (if (!decide (n27 = 0)) = true then
  (if (decide (n15 = n27)) = true then
  some (decide (n24 = n27))
  else
  some (decide (n15 = n27))).bind fun q28 =>
  (if q28 = true then
  (U.len u13).bind fun k29 =>
  some (decide (((k29 : Nat) : Int) = 0))
  else
  some q28).bind fun q30 =>
  (if q30 = true then
  (eqUs ks0 (.st [.c (.int .i64 ((f22 0).i)), .c (.int .i64 ((f22 1).i)), .c (.int .i64 ((f22 2).i)), .c (.int .i64 ((f22 3).i))] : U) (.st [.c (.int .i64 0), .c (.int .i64 0), .c (.int .i64 0), .c (.int .i64 0)] : U)).bind fun b31 =>
  some (b31 != false)
  else
  some q30).bind fun q32 =>
  some (.val (.c (.bool q32)))
  else
  (if (!decide (n15 = 0)) = false then
  (y36 M g_0 g_1 g_2).bind fun r33 =>
  (Rz.asSl r33).bind fun s34 =>
  (y35 M u13 (Sx.fz s34)).bind fun r35 =>
  (Rz.toU r35).bind fun u36 =>
  (U.asB u36).bind fun b37 =>
  some (!b37)
  else
  some (!decide (n15 = 0))).bind fun q38 =>
  (if q38 = true then
  some (.val (.c (.bool false)))
  else
  (y37 M a 0 11).bind fun r39 =>
  (Rz.toU r39).bind fun u40 =>
  (U.asB u40).bind fun b41 =>
  (if (!b41) = false then
  (y37 M b 0 11).bind fun r42 =>
  (Rz.toU r42).bind fun u43 =>
  (U.asB u43).bind fun b44 =>
  some (!b44)
  else
  some (!b41)).bind fun q45 =>
  (if q45 = true then
  (if (decide (n24 = 3)) = true then
  (eqUs ks0 (.st [.c (.int .i64 ((f22 0).i)), .c (.int .i64 ((f22 1).i)), .c (.int .i64 ((f22 2).i)), .c (.int .i64 ((f22 3).i))] : U) (.st [.c (.int .i64 0), .c (.int .i64 0), .c (.int .i64 0), .c (.int .i64 0)] : U)).bind fun b46 =>
  some (b46 != false)
  else
  some (decide (n24 = 3))).bind fun q47 =>
  some (.val (.c (.bool q47)))
  else
  (if (decide (a = b)) = true then
  (if (decide (n24 = 5)) = true then
  (eqUs ks0 (.st [.c (.int .i64 ((f22 0).i)), .c (.int .i64 ((f22 1).i)), .c (.int .i64 ((f22 2).i)), .c (.int .i64 ((f22 3).i))] : U) (.st [.c (.int .i64 0), .c (.int .i64 0), .c (.int .i64 0), .c (.int .i64 0)] : U)).bind fun b48 =>
  some (b48 != false)
  else
  some (decide (n24 = 5))).bind fun q49 =>
  some (.val (.c (.bool q49)))
  else
  (y38 M g_0 g_1 g_2 a b).bind fun r50 =>
  (Rz.asTup r50).bind fun t51 =>
  (t51[0]?).bind fun u52 =>
  (U.exact u52 ks0).bind fun f53 =>
  (t51[1]?).bind fun u54 =>
  (U.asB u54).bind fun b55 =>
  (if (!b55) = true then
  (if (decide (n24 = 25)) = true then
  (eqUs ks0 (.st [.c (.int .i64 ((f22 0).i)), .c (.int .i64 ((f22 1).i)), .c (.int .i64 ((f22 2).i)), .c (.int .i64 ((f22 3).i))] : U) (.st [.c (.int .i64 0), .c (.int .i64 0), .c (.int .i64 0), .c (.int .i64 0)] : U)).bind fun b56 =>
  some (b56 != false)
  else
  some (decide (n24 = 25))).bind fun q57 =>
  (if q57 = true then
  (U.idx 1 u13 a).bind fun v58 =>
  (U.cell v58 0).bind fun c59 =>
  (y39 M c59 b).bind fun r60 =>
  (Rz.toU r60).bind fun u61 =>
  (U.asB u61).bind fun b62 =>
  some b62
  else
  some q57).bind fun q63 =>
  (if q63 = true then
  (U.idx 1 u13 b).bind fun v64 =>
  (U.cell v64 0).bind fun c65 =>
  (y39 M c65 a).bind fun r66 =>
  (Rz.toU r66).bind fun u67 =>
  (U.asB u67).bind fun b68 =>
  some b68
  else
  some q63).bind fun q69 =>
  some (.val (.c (.bool q69)))
  else
  (if (decide (n24 = 0)) = true then
  (eqUs ks0 (.st [.c (.int .i64 ((f22 0).i)), .c (.int .i64 ((f22 1).i)), .c (.int .i64 ((f22 2).i)), .c (.int .i64 ((f22 3).i))] : U) (.st [.c (.int .i64 ((f53 0).i)), .c (.int .i64 ((f53 1).i)), .c (.int .i64 ((f53 2).i)), .c (.int .i64 ((f53 3).i))] : U)).bind fun b70 =>
  some (b70 != false)
  else
  some (decide (n24 = 0))).bind fun q71 =>
  (if q71 = true then
  (U.idx 1 u13 a).bind fun v72 =>
  (U.cell v72 0).bind fun c73 =>
  (y39 M c73 b).bind fun r74 =>
  (Rz.toU r74).bind fun u75 =>
  (U.asB u75).bind fun b76 =>
  some (!b76)
  else
  some q71).bind fun q77 =>
  (if q77 = true then
  (U.idx 1 u13 b).bind fun v78 =>
  (U.cell v78 0).bind fun c79 =>
  (y39 M c79 a).bind fun r80 =>
  (Rz.toU r80).bind fun u81 =>
  (U.asB u81).bind fun b82 =>
  some (!b82)
  else
  some q77).bind fun q83 =>
  some (.val (.c (.bool q83)))))))))) := by
  unfold y6 yrunM; rw [yrun_eq]; kernel_rfl
-- stutter/stutterlaw19.few
theorem y11_eq (M : YM) (g_0 : Int) (g_1 g_2 : U) : y11 M g_0 g_1 g_2 =
  (if (decide (g_0 ≤ 8)) = false then
  some (decide (60 < g_0))
  else
  some (decide (g_0 ≤ 8))).bind fun q1 =>
  (if q1 = true then
  (U.len g_1).bind fun k2 =>
  some (decide (((k2 : Nat) : Int) ≤ 70))
  else
  some q1).bind fun q3 =>
  (if q3 = true then
  (U.len g_2).bind fun k4 =>
  some (decide (((k4 : Nat) : Int) ≤ 30))
  else
  some q3).bind fun q5 =>
  some (.val (.c (.bool q5))) := by
  unfold y11 yrunM; rw [yrun_eq]; kernel_rfl
-- stutter/stutterbase.OwnGraph
theorem y14_eq (M : YM) (g_0 : Int) (g_1 g_2 : U) : y14 M g_0 g_1 g_2 =
  (y15 M g_1).bind fun r1 =>
  (Rz.asSl r1).bind fun s2 =>
  (U.asL g_2).bind fun l3 =>
  (Sx.app (⟨true, 3, []⟩ : Sx) 3 l3.2).bind fun s4 =>
  some (.val (.st [.c (.int .i64 g_0), Sx.fz s2, Sx.fz s4])) := by
  unfold y14 yrunM; rw [yrun_eq]; kernel_rfl
-- stutter/stutterbase.OwnInts
theorem y15_eq (M : YM) (l : U) : y15 M l =
  (U.asL l).bind fun l1 =>
  (Sx.app (⟨true, 1, []⟩ : Sx) 1 l1.2).bind fun s2 =>
  (if scals s2.es = true then
  some (.sl s2)
  else
  none) := by
  unfold y15 yrunM; rw [yrun_eq]; kernel_rfl
-- stutter/stutterref19.GraphErr
theorem y17_eq (M : YM) (g_0 : Int) (g_1 g_2 : U) : y17 M g_0 g_1 g_2 =
  (y55 M g_0 g_1 g_2).bind fun r1 =>
  (Rz.toU r1).bind fun u2 =>
  (U.asB u2).bind fun b3 =>
  (if (!b3) = true then
  some (.val (.c (.int .i64 5)))
  else
  (if (decide (60 < g_0)) = true then
  some (.val (.c (.int .i64 2)))
  else
  some (.val (.c (.int .i64 0))))) := by
  unfold y17 yrunM; rw [yrun_eq]; kernel_rfl
-- stutter/stutterbase.EqualInts
theorem y27_eq (M : YM) (a b : U) : y27 M a b =
  (U.len a).bind fun k1 =>
  (U.len b).bind fun k2 =>
  (if (!decide (((k1 : Nat) : Int) = ((k2 : Nat) : Int))) = true then
  some (.val (.c (.bool false)))
  else
  y27_1 M a b 0) := by
  unfold y27 yrunM; rw [yrun_eq]; kernel_rfl
theorem y27_1_eq (M : YM) (a b : U) (i : Int) : y27_1 M a b i =
  (U.len a).bind fun k1 =>
  (if (decide (i < ((k1 : Nat) : Int))) = true then
  (U.idx 1 a i).bind fun v2 =>
  (U.idx 1 b i).bind fun v3 =>
  (U.cell v2 0).bind fun c4 =>
  (U.asI .i64 c4).bind fun n5 =>
  (U.cell v3 0).bind fun c6 =>
  (U.asI .i64 c6).bind fun n7 =>
  (if (!decide (n5 = n7)) = true then
  some (.val (.c (.bool false)))
  else
  y27_1 M a b (IntKind.wrap .i64 (i + 1)))
  else
  some (.val (.c (.bool true)))) := by
  unfold y27_1 yrunM; rw [yrun_eq]; kernel_rfl
-- stutter/reduce.IndependentIn
theorem y33_eq (M : YM) (x_0 : Int) (x_1 x_2 : U) : y33 M x_0 x_1 x_2 =
  (y48 M x_0 x_1 x_2).bind fun r1 =>
  (Rz.toU r1).bind fun u2 =>
  (U.asI .i64 u2).bind fun n3 =>
  (if (!decide (n3 = 0)) = true then
  some (.tup [Sx.fz (⟨false, 0, []⟩ : Sx), .c (.int .i64 n3)])
  else
  (y61 M x_0 x_1 x_2).bind fun r4 =>
  (Rz.toU r4).bind fun u5 =>
  (U.one u5).bind fun u6 =>
  (y67 M u6).bind fun r7 =>
  (Rz.toU r7).bind fun u8 =>
  y33_1 M u8 0 (⟨false, 0, []⟩ : Sx)) := by
  unfold y33 yrunM; rw [yrun_eq]; kernel_rfl
theorem y33_1_eq (M : YM) (x18 : U) (x19 : Int) (out : Sx) : y33_1 M x18 x19 out =
  (if (decide (x19 < 12)) = true then
  (if 0 ≤ x19 ∧ x19 < ((12 : Nat) : Int) then
  (U.part x18 (x19.toNat * 12) 12).bind fun v1 =>
  (U.split 12 v1).bind fun f2 =>
  (if hasKs ks3 [(f2 0), (f2 1), (f2 2), (f2 3), (f2 4), (f2 5), (f2 6), (f2 7), (f2 8), (f2 9), (f2 10), (f2 11)] = true then
  y33_2 M x18 x19 (f2 0) (f2 1) (f2 2) (f2 3) (f2 4) (f2 5) (f2 6) (f2 7) (f2 8) (f2 9) (f2 10) (f2 11) 0 out (⟨false, 0, []⟩ : Sx)
  else
  none)
  else
  none)
  else
  some (.tup [Sx.fz out, .c (.int .i64 0)])) := by
  unfold y33_1 yrunM; rw [yrun_eq]; kernel_rfl
theorem y33_2_eq (M : YM) (x18 : U) (x19 : Int) (x22_0 x22_1 x22_2 x22_3 x22_4 x22_5 x22_6 x22_7 x22_8 x22_9 x22_10 x22_11 : U) (x23 : Int) (out own : Sx) : y33_2 M x18 x19 x22_0 x22_1 x22_2 x22_3 x22_4 x22_5 x22_6 x22_7 x22_8 x22_9 x22_10 x22_11 x23 out own =
  (if (decide (x23 < 12)) = true then
  (if 0 ≤ x23 ∧ x23 < ((12 : Nat) : Int) then
  ([x22_0, x22_1, x22_2, x22_3, x22_4, x22_5, x22_6, x22_7, x22_8, x22_9, x22_10, x22_11][x23.toNat]?).bind fun c1 =>
  (U.asB c1).bind fun b2 =>
  (if (!b2) = true then
  (Sx.app own 1 ([.c (.int .i64 x23)])).bind fun s3 =>
  y33_3 M x18 x19 x22_0 x22_1 x22_2 x22_3 x22_4 x22_5 x22_6 x22_7 x22_8 x22_9 x22_10 x22_11 x23 out s3
  else
  y33_3 M x18 x19 x22_0 x22_1 x22_2 x22_3 x22_4 x22_5 x22_6 x22_7 x22_8 x22_9 x22_10 x22_11 x23 out own)
  else
  none)
  else
  (Sx.app out 1 ([Sx.fz own])).bind fun s4 =>
  y33_1 M x18 (IntKind.wrap .i64 (x19 + 1)) s4) := by
  unfold y33_2 yrunM; rw [yrun_eq]; kernel_rfl
theorem y33_3_eq (M : YM) (x18 : U) (x19 : Int) (x22_0 x22_1 x22_2 x22_3 x22_4 x22_5 x22_6 x22_7 x22_8 x22_9 x22_10 x22_11 : U) (x23 : Int) (out own : Sx) : y33_3 M x18 x19 x22_0 x22_1 x22_2 x22_3 x22_4 x22_5 x22_6 x22_7 x22_8 x22_9 x22_10 x22_11 x23 out own =
  y33_2 M x18 x19 x22_0 x22_1 x22_2 x22_3 x22_4 x22_5 x22_6 x22_7 x22_8 x22_9 x22_10 x22_11 (IntKind.wrap .i64 (x23 + 1)) out own := by
  unfold y33_3 yrunM; rw [yrun_eq]; kernel_rfl
-- stutter/reduce.DependenceOf
theorem y34_eq (M : YM) (x_0 : Int) (x_1 x_2 : U) (a b : Int) : y34 M x_0 x_1 x_2 a b =
  (y48 M x_0 x_1 x_2).bind fun r1 =>
  (Rz.toU r1).bind fun u2 =>
  (U.asI .i64 u2).bind fun n3 =>
  (y69 M a 0 11).bind fun r4 =>
  (Rz.toU r4).bind fun u5 =>
  (U.asB u5).bind fun b6 =>
  (y68 M b6 3).bind fun r7 =>
  (Rz.toU r7).bind fun u8 =>
  (U.asI .i64 u8).bind fun n9 =>
  (y69 M b 0 11).bind fun r10 =>
  (Rz.toU r10).bind fun u11 =>
  (U.asB u11).bind fun b12 =>
  (y68 M b12 3).bind fun r13 =>
  (Rz.toU r13).bind fun u14 =>
  (U.asI .i64 u14).bind fun n15 =>
  (y68 M (!decide (a = b)) 5).bind fun r16 =>
  (Rz.toU r16).bind fun u17 =>
  (U.asI .i64 u17).bind fun n18 =>
  (y49 M (Sx.fz (⟨true, 1, [.c (.int .i64 n3), .c (.int .i64 n9), .c (.int .i64 n15), .c (.int .i64 n18)]⟩ : Sx))).bind fun r19 =>
  (Rz.toU r19).bind fun u20 =>
  (U.asI .i64 u20).bind fun n21 =>
  (if (!decide (n21 = 0)) = true then
  some (.tup [.st [.c (.int .i64 0), .c (.int .i64 0), .c (.int .i64 0), .c (.int .i64 0)], .c (.int .i64 n21)])
  else
  (y61 M x_0 x_1 x_2).bind fun r22 =>
  (Rz.toU r22).bind fun u23 =>
  (U.one u23).bind fun u24 =>
  (y70 M u24 a b).bind fun r25 =>
  (Rz.asTup r25).bind fun t26 =>
  (t26[0]?).bind fun u27 =>
  (U.exact u27 ks0).bind fun f28 =>
  (t26[1]?).bind fun u29 =>
  (U.asB u29).bind fun b30 =>
  (y68 M b30 25).bind fun r31 =>
  (Rz.toU r31).bind fun u32 =>
  (U.asI .i64 u32).bind fun n33 =>
  some (.tup [.st [.c (.int .i64 ((f28 0).i)), .c (.int .i64 ((f28 1).i)), .c (.int .i64 ((f28 2).i)), .c (.int .i64 ((f28 3).i))], .c (.int .i64 n33)])) := by
  unfold y34 yrunM; rw [yrun_eq]; kernel_rfl
-- stutter/stutterbase.EqualLists
theorem y35_eq (M : YM) (a b : U) : y35 M a b =
  (U.len a).bind fun k1 =>
  (U.len b).bind fun k2 =>
  (if (!decide (((k1 : Nat) : Int) = ((k2 : Nat) : Int))) = true then
  some (.val (.c (.bool false)))
  else
  y35_1 M a b 0) := by
  unfold y35 yrunM; rw [yrun_eq]; kernel_rfl
theorem y35_1_eq (M : YM) (a b : U) (i : Int) : y35_1 M a b i =
  (U.len a).bind fun k1 =>
  (if (decide (i < ((k1 : Nat) : Int))) = true then
  (U.idx 1 a i).bind fun v2 =>
  (U.idx 1 b i).bind fun v3 =>
  (U.cell v2 0).bind fun c4 =>
  (U.cell v3 0).bind fun c5 =>
  (y27 M c4 c5).bind fun r6 =>
  (Rz.toU r6).bind fun u7 =>
  (U.asB u7).bind fun b8 =>
  (if (!b8) = true then
  some (.val (.c (.bool false)))
  else
  y35_1 M a b (IntKind.wrap .i64 (i + 1)))
  else
  some (.val (.c (.bool true)))) := by
  unfold y35_1 yrunM; rw [yrun_eq]; kernel_rfl
-- stutter/stutterref19.Independent
theorem y36_eq (M : YM) (g_0 : Int) (g_1 g_2 : U) : y36 M g_0 g_1 g_2 =
  y36_1 M g_0 g_1 g_2 0 (⟨false, 0, []⟩ : Sx) := by
  unfold y36 yrunM; rw [yrun_eq]; kernel_rfl
theorem y36_1_eq (M : YM) (g_0 : Int) (g_1 g_2 : U) (a : Int) (out : Sx) : y36_1 M g_0 g_1 g_2 a out =
  (if (decide (a < 12)) = true then
  y36_2 M g_0 g_1 g_2 a 0 out (⟨false, 0, []⟩ : Sx)
  else
  some (.sl out)) := by
  unfold y36_1 yrunM; rw [yrun_eq]; kernel_rfl
theorem y36_2_eq (M : YM) (g_0 : Int) (g_1 g_2 : U) (a b : Int) (out l : Sx) : y36_2 M g_0 g_1 g_2 a b out l =
  (if (decide (b < 12)) = true then
  (if (decide (a = b)) = true then
  y36_2 M g_0 g_1 g_2 a (IntKind.wrap .i64 (b + 1)) out l
  else
  (y38 M g_0 g_1 g_2 a b).bind fun r1 =>
  (Rz.asTup r1).bind fun t2 =>
  (t2[0]?).bind fun u3 =>
  (U.exact u3 ks0).bind fun f4 =>
  (t2[1]?).bind fun u5 =>
  (U.asB u5).bind fun b6 =>
  (if (!b6) = true then
  (Sx.app l 1 ([.c (.int .i64 b)])).bind fun s7 =>
  y36_3 M g_0 g_1 g_2 a b out s7
  else
  y36_3 M g_0 g_1 g_2 a b out l))
  else
  (Sx.app out 1 ([Sx.fz l])).bind fun s8 =>
  y36_1 M g_0 g_1 g_2 (IntKind.wrap .i64 (a + 1)) s8) := by
  unfold y36_2 yrunM; rw [yrun_eq]; kernel_rfl
theorem y36_3_eq (M : YM) (g_0 : Int) (g_1 g_2 : U) (a b : Int) (out l : Sx) : y36_3 M g_0 g_1 g_2 a b out l =
  y36_2 M g_0 g_1 g_2 a (IntKind.wrap .i64 (b + 1)) out l := by
  unfold y36_3 yrunM; rw [yrun_eq]; kernel_rfl
-- stutter/stutterbase.Between
theorem y37_eq (M : YM) (n low high : Int) : y37 M n low high =
  (if (decide (low ≤ n)) = true then
  some (decide (n ≤ high))
  else
  some (decide (low ≤ n))).bind fun q1 =>
  some (.val (.c (.bool q1))) := by
  unfold y37 yrunM; rw [yrun_eq]; kernel_rfl
-- stutter/stutterref19.Clash
theorem y38_eq (M : YM) (g_0 : Int) (g_1 g_2 : U) (a b : Int) : y38 M g_0 g_1 g_2 a b =
  y38_1 M a b g_0 g_1 g_2 0 0 0 0 0 := by
  unfold y38 yrunM; rw [yrun_eq]; kernel_rfl
theorem y38_1_eq (M : YM) (a b g_0 : Int) (g_1 g_2 : U) (x6_0 x6_1 x6_2 x6_3 s : Int) : y38_1 M a b g_0 g_1 g_2 x6_0 x6_1 x6_2 x6_3 s =
  (if (decide (s < g_0)) = true then
  (y71 M g_0 g_1 g_2 s a).bind fun r1 =>
  (Rz.asSl r1).bind fun s2 =>
  (y71 M g_0 g_1 g_2 s b).bind fun r3 =>
  (Rz.asSl r3).bind fun s4 =>
  (if (decide ((((s2.es).length : Nat) : Int) = 0)) = false then
  some (decide ((((s4.es).length : Nat) : Int) = 0))
  else
  some (decide ((((s2.es).length : Nat) : Int) = 0))).bind fun q5 =>
  (if q5 = true then
  y38_1 M a b g_0 g_1 g_2 x6_0 x6_1 x6_2 x6_3 (IntKind.wrap .i64 (s + 1))
  else
  y38_2 M a b g_0 g_1 g_2 x6_0 x6_1 x6_2 x6_3 s 0 s2 s4)
  else
  some (.tup [.st [.c (.int .i64 0), .c (.int .i64 0), .c (.int .i64 0), .c (.int .i64 0)], .c (.bool false)])) := by
  unfold y38_1 yrunM; rw [yrun_eq]; kernel_rfl
theorem y38_2_eq (M : YM) (a b g_0 : Int) (g_1 g_2 : U) (x6_0 x6_1 x6_2 x6_3 s i : Int) (x y : Sx) : y38_2 M a b g_0 g_1 g_2 x6_0 x6_1 x6_2 x6_3 s i x y =
  (if (decide (i < (((x.es).length : Nat) : Int))) = true then
  y38_3 M a b g_0 g_1 g_2 x6_0 x6_1 x6_2 x6_3 s i 0 x y
  else
  y38_4 M a b g_0 g_1 g_2 x6_0 x6_1 x6_2 x6_3 s 0 x y) := by
  unfold y38_2 yrunM; rw [yrun_eq]; kernel_rfl
theorem y38_3_eq (M : YM) (a b g_0 : Int) (g_1 g_2 : U) (x6_0 x6_1 x6_2 x6_3 s i k : Int) (x y : Sx) : y38_3 M a b g_0 g_1 g_2 x6_0 x6_1 x6_2 x6_3 s i k x y =
  (if (decide (k < (((y.es).length : Nat) : Int))) = true then
  (if Sx.has x 1 i = true then
  (if Sx.has y 1 k = true then
  ((x.es)[i.toNat]?).bind fun v1 =>
  (U.cell v1 0).bind fun c2 =>
  (U.asI .i64 c2).bind fun n3 =>
  ((y.es)[k.toNat]?).bind fun v4 =>
  (U.cell v4 0).bind fun c5 =>
  (U.asI .i64 c5).bind fun n6 =>
  (y72 M g_0 g_1 g_2 n3 n6).bind fun r7 =>
  (Rz.toU r7).bind fun u8 =>
  (U.asB u8).bind fun b9 =>
  (if (!b9) = true then
  (if Sx.has x 1 i = true then
  (if Sx.has y 1 k = true then
  ((x.es)[i.toNat]?).bind fun v10 =>
  (U.cell v10 0).bind fun c11 =>
  (U.asI .i64 c11).bind fun n12 =>
  ((y.es)[k.toNat]?).bind fun v13 =>
  (U.cell v13 0).bind fun c14 =>
  (U.asI .i64 c14).bind fun n15 =>
  some (.tup [.st [.c (.int .i64 s), .c (.int .i64 1), .c (.int .i64 n12), .c (.int .i64 n15)], .c (.bool true)])
  else
  none)
  else
  none)
  else
  y38_3 M a b g_0 g_1 g_2 x6_0 x6_1 x6_2 x6_3 s i (IntKind.wrap .i64 (k + 1)) x y)
  else
  none)
  else
  none)
  else
  y38_2 M a b g_0 g_1 g_2 x6_0 x6_1 x6_2 x6_3 s (IntKind.wrap .i64 (i + 1)) x y) := by
  unfold y38_3 yrunM; rw [yrun_eq]; kernel_rfl
theorem y38_4_eq (M : YM) (a b g_0 : Int) (g_1 g_2 : U) (x6_0 x6_1 x6_2 x6_3 s i : Int) (x y : Sx) : y38_4 M a b g_0 g_1 g_2 x6_0 x6_1 x6_2 x6_3 s i x y =
  (if (decide (i < (((x.es).length : Nat) : Int))) = true then
  (if Sx.has x 1 i = true then
  ((x.es)[i.toNat]?).bind fun v1 =>
  (U.cell v1 0).bind fun c2 =>
  (U.asI .i64 c2).bind fun n3 =>
  (U.idx 3 g_2 n3).bind fun v4 =>
  (U.cell v4 1).bind fun c5 =>
  (U.asI .i64 c5).bind fun n6 =>
  (y71 M g_0 g_1 g_2 n6 b).bind fun r7 =>
  (Rz.asSl r7).bind fun s8 =>
  y38_5 M a b g_0 g_1 g_2 x6_0 x6_1 x6_2 x6_3 s i 0 x y s8
  else
  none)
  else
  y38_6 M a b g_0 g_1 g_2 x6_0 x6_1 x6_2 x6_3 s 0 0 0 0 false 0 y) := by
  unfold y38_4 yrunM; rw [yrun_eq]; kernel_rfl
theorem y38_5_eq (M : YM) (a b g_0 : Int) (g_1 g_2 : U) (x6_0 x6_1 x6_2 x6_3 s i k : Int) (x y z : Sx) : y38_5 M a b g_0 g_1 g_2 x6_0 x6_1 x6_2 x6_3 s i k x y z =
  (if (decide (k < (((z.es).length : Nat) : Int))) = true then
  (if Sx.has x 1 i = true then
  (if Sx.has z 1 k = true then
  ((x.es)[i.toNat]?).bind fun v1 =>
  (U.cell v1 0).bind fun c2 =>
  (U.asI .i64 c2).bind fun n3 =>
  ((z.es)[k.toNat]?).bind fun v4 =>
  (U.cell v4 0).bind fun c5 =>
  (U.asI .i64 c5).bind fun n6 =>
  (y73 M g_0 g_1 g_2 n3 n6).bind fun r7 =>
  (Rz.toU r7).bind fun u8 =>
  (U.asB u8).bind fun b9 =>
  (if (!b9) = true then
  (if Sx.has x 1 i = true then
  (if Sx.has z 1 k = true then
  ((x.es)[i.toNat]?).bind fun v10 =>
  (U.cell v10 0).bind fun c11 =>
  (U.asI .i64 c11).bind fun n12 =>
  ((z.es)[k.toNat]?).bind fun v13 =>
  (U.cell v13 0).bind fun c14 =>
  (U.asI .i64 c14).bind fun n15 =>
  some (.tup [.st [.c (.int .i64 s), .c (.int .i64 2), .c (.int .i64 n12), .c (.int .i64 n15)], .c (.bool true)])
  else
  none)
  else
  none)
  else
  y38_5 M a b g_0 g_1 g_2 x6_0 x6_1 x6_2 x6_3 s i (IntKind.wrap .i64 (k + 1)) x y z)
  else
  none)
  else
  none)
  else
  y38_4 M a b g_0 g_1 g_2 x6_0 x6_1 x6_2 x6_3 s (IntKind.wrap .i64 (i + 1)) x y) := by
  unfold y38_5 yrunM; rw [yrun_eq]; kernel_rfl
theorem y38_6_eq (M : YM) (a b g_0 : Int) (g_1 g_2 : U) (x6_0 x6_1 x6_2 x6_3 s best_0 best_1 best_2 best_3 : Int) (found : Bool) (k : Int) (y : Sx) : y38_6 M a b g_0 g_1 g_2 x6_0 x6_1 x6_2 x6_3 s best_0 best_1 best_2 best_3 found k y =
  (if (decide (k < (((y.es).length : Nat) : Int))) = true then
  (if Sx.has y 1 k = true then
  ((y.es)[k.toNat]?).bind fun v1 =>
  (U.cell v1 0).bind fun c2 =>
  (U.asI .i64 c2).bind fun n3 =>
  (U.idx 3 g_2 n3).bind fun v4 =>
  (U.cell v4 1).bind fun c5 =>
  (U.asI .i64 c5).bind fun n6 =>
  (y71 M g_0 g_1 g_2 n6 a).bind fun r7 =>
  (Rz.asSl r7).bind fun s8 =>
  y38_7 M a b g_0 g_1 g_2 x6_0 x6_1 x6_2 x6_3 s best_0 best_1 best_2 best_3 found k 0 y s8
  else
  none)
  else
  (if found = true then
  some (.tup [.st [.c (.int .i64 best_0), .c (.int .i64 best_1), .c (.int .i64 best_2), .c (.int .i64 best_3)], .c (.bool true)])
  else
  y38_1 M a b g_0 g_1 g_2 x6_0 x6_1 x6_2 x6_3 (IntKind.wrap .i64 (s + 1)))) := by
  unfold y38_6 yrunM; rw [yrun_eq]; kernel_rfl
theorem y38_7_eq (M : YM) (a b g_0 : Int) (g_1 g_2 : U) (x6_0 x6_1 x6_2 x6_3 s best_0 best_1 best_2 best_3 : Int) (found : Bool) (k i : Int) (y z : Sx) : y38_7 M a b g_0 g_1 g_2 x6_0 x6_1 x6_2 x6_3 s best_0 best_1 best_2 best_3 found k i y z =
  (if (decide (i < (((z.es).length : Nat) : Int))) = true then
  (if Sx.has y 1 k = true then
  (if Sx.has z 1 i = true then
  ((y.es)[k.toNat]?).bind fun v1 =>
  (U.cell v1 0).bind fun c2 =>
  (U.asI .i64 c2).bind fun n3 =>
  ((z.es)[i.toNat]?).bind fun v4 =>
  (U.cell v4 0).bind fun c5 =>
  (U.asI .i64 c5).bind fun n6 =>
  (y73 M g_0 g_1 g_2 n3 n6).bind fun r7 =>
  (Rz.toU r7).bind fun u8 =>
  (U.asB u8).bind fun b9 =>
  (if (!b9) = true then
  (if (!found) = false then
  (if Sx.has z 1 i = true then
  ((z.es)[i.toNat]?).bind fun v10 =>
  (U.cell v10 0).bind fun c11 =>
  (U.asI .i64 c11).bind fun n12 =>
  some (decide (n12 < best_2))
  else
  none)
  else
  some (!found)).bind fun q13 =>
  (if q13 = false then
  (if Sx.has z 1 i = true then
  ((z.es)[i.toNat]?).bind fun v14 =>
  (U.cell v14 0).bind fun c15 =>
  (U.asI .i64 c15).bind fun n16 =>
  (if (decide (n16 = best_2)) = true then
  (if Sx.has y 1 k = true then
  ((y.es)[k.toNat]?).bind fun v17 =>
  (U.cell v17 0).bind fun c18 =>
  (U.asI .i64 c18).bind fun n19 =>
  some (decide (n19 < best_3))
  else
  none)
  else
  some (decide (n16 = best_2))).bind fun q20 =>
  some q20
  else
  none)
  else
  some q13).bind fun q21 =>
  some q21
  else
  some (!b9)).bind fun q22 =>
  (if q22 = true then
  (if Sx.has z 1 i = true then
  (if Sx.has y 1 k = true then
  ((z.es)[i.toNat]?).bind fun v23 =>
  (U.cell v23 0).bind fun c24 =>
  (U.asI .i64 c24).bind fun n25 =>
  ((y.es)[k.toNat]?).bind fun v26 =>
  (U.cell v26 0).bind fun c27 =>
  (U.asI .i64 c27).bind fun n28 =>
  y38_8 M a b g_0 g_1 g_2 x6_0 x6_1 x6_2 x6_3 s s 3 n25 n28 true k i y z
  else
  none)
  else
  none)
  else
  y38_8 M a b g_0 g_1 g_2 x6_0 x6_1 x6_2 x6_3 s best_0 best_1 best_2 best_3 found k i y z)
  else
  none)
  else
  none)
  else
  y38_6 M a b g_0 g_1 g_2 x6_0 x6_1 x6_2 x6_3 s best_0 best_1 best_2 best_3 found (IntKind.wrap .i64 (k + 1)) y) := by
  unfold y38_7 yrunM; rw [yrun_eq]; kernel_rfl
theorem y38_8_eq (M : YM) (a b g_0 : Int) (g_1 g_2 : U) (x6_0 x6_1 x6_2 x6_3 s best_0 best_1 best_2 best_3 : Int) (found : Bool) (k i : Int) (y z : Sx) : y38_8 M a b g_0 g_1 g_2 x6_0 x6_1 x6_2 x6_3 s best_0 best_1 best_2 best_3 found k i y z =
  y38_7 M a b g_0 g_1 g_2 x6_0 x6_1 x6_2 x6_3 s best_0 best_1 best_2 best_3 found k (IntKind.wrap .i64 (i + 1)) y z := by
  unfold y38_8 yrunM; rw [yrun_eq]; kernel_rfl
-- stutter/stutterbase.Holds
theorem y39_eq (M : YM) (l : U) (n : Int) : y39 M l n =
  y39_1 M l n 0 := by
  unfold y39 yrunM; rw [yrun_eq]; kernel_rfl
theorem y39_1_eq (M : YM) (l : U) (n i : Int) : y39_1 M l n i =
  (U.len l).bind fun k1 =>
  (if (decide (i < ((k1 : Nat) : Int))) = true then
  (U.idx 1 l i).bind fun v2 =>
  (U.cell v2 0).bind fun c3 =>
  (U.asI .i64 c3).bind fun n4 =>
  (if (decide (n4 = n)) = true then
  some (.val (.c (.bool true)))
  else
  y39_1 M l n (IntKind.wrap .i64 (i + 1)))
  else
  some (.val (.c (.bool false)))) := by
  unfold y39_1 yrunM; rw [yrun_eq]; kernel_rfl
-- stutter/reduce.graphErr
theorem y48_eq (M : YM) (g_0 : Int) (g_1 g_2 : U) : y48 M g_0 g_1 g_2 =
  (y69 M g_0 0 400).bind fun r1 =>
  (Rz.toU r1).bind fun u2 =>
  (U.asB u2).bind fun b3 =>
  (if (!b3) = false then
  (U.len g_2).bind fun k4 =>
  some (decide (2000 < ((k4 : Nat) : Int)))
  else
  some (!b3)).bind fun q5 =>
  (if q5 = true then
  some (.val (.c (.int .i64 5)))
  else
  (U.len g_1).bind fun k6 =>
  y48_1 M g_0 g_1 g_2 g_1 ((k6 : Nat) : Int) 0) := by
  unfold y48 yrunM; rw [yrun_eq]; kernel_rfl
theorem y48_1_eq (M : YM) (g_0 : Int) (g_1 g_2 x18 : U) (x19 x20 : Int) : y48_1 M g_0 g_1 g_2 x18 x19 x20 =
  (if (decide (x20 < x19)) = true then
  (U.idx 1 x18 x20).bind fun v1 =>
  (U.cell v1 0).bind fun c2 =>
  (U.asI .i64 c2).bind fun n3 =>
  (y69 M n3 0 (IntKind.wrap .i64 (g_0 - 1))).bind fun r4 =>
  (Rz.toU r4).bind fun u5 =>
  (U.asB u5).bind fun b6 =>
  (if (!b6) = false then
  (if (decide (0 < x20)) = true then
  (U.idx 1 g_1 (IntKind.wrap .i64 (x20 - 1))).bind fun v7 =>
  (U.cell v7 0).bind fun c8 =>
  (U.asI .i64 c8).bind fun n9 =>
  some (decide (n3 ≤ n9))
  else
  some (decide (0 < x20))).bind fun q10 =>
  some q10
  else
  some (!b6)).bind fun q11 =>
  (if q11 = true then
  some (.val (.c (.int .i64 5)))
  else
  y48_1 M g_0 g_1 g_2 x18 x19 (IntKind.wrap .i64 (x20 + 1)))
  else
  (U.len g_2).bind fun k12 =>
  y48_2 M g_0 g_1 g_2 g_2 ((k12 : Nat) : Int) 0) := by
  unfold y48_1 yrunM; rw [yrun_eq]; kernel_rfl
theorem y48_2_eq (M : YM) (g_0 : Int) (g_1 g_2 x47 : U) (x48 x49 : Int) : y48_2 M g_0 g_1 g_2 x47 x48 x49 =
  (if (decide (x49 < x48)) = true then
  (U.idx 3 x47 x49).bind fun v1 =>
  (U.struct v1 0 ks2).bind fun f2 =>
  (y69 M ((f2 0).i) 0 (IntKind.wrap .i64 (g_0 - 1))).bind fun r3 =>
  (Rz.toU r3).bind fun u4 =>
  (U.asB u4).bind fun b5 =>
  (if (!b5) = false then
  (y69 M ((f2 1).i) 0 (IntKind.wrap .i64 (g_0 - 1))).bind fun r6 =>
  (Rz.toU r6).bind fun u7 =>
  (U.asB u7).bind fun b8 =>
  some (!b8)
  else
  some (!b5)).bind fun q9 =>
  (if q9 = false then
  (y69 M ((f2 2).i) 0 11).bind fun r10 =>
  (Rz.toU r10).bind fun u11 =>
  (U.asB u11).bind fun b12 =>
  some (!b12)
  else
  some q9).bind fun q13 =>
  (if q13 = false then
  (if (decide (0 < x49)) = true then
  (U.idx 3 g_2 (IntKind.wrap .i64 (x49 - 1))).bind fun v14 =>
  (U.struct v14 0 ks2).bind fun f15 =>
  (y78 M ((f15 0).i) ((f15 1).i) ((f15 2).i) ((f2 0).i) ((f2 1).i) ((f2 2).i)).bind fun r16 =>
  (Rz.toU r16).bind fun u17 =>
  (U.asI .i64 u17).bind fun n18 =>
  some (decide (0 ≤ n18))
  else
  some (decide (0 < x49))).bind fun q19 =>
  some q19
  else
  some q13).bind fun q20 =>
  (if q20 = true then
  some (.val (.c (.int .i64 5)))
  else
  y48_2 M g_0 g_1 g_2 x47 x48 (IntKind.wrap .i64 (x49 + 1)))
  else
  (y68 M (decide (g_0 ≤ 60)) 2).bind fun r21 =>
  (Rz.toU r21).bind fun u22 =>
  (U.asI .i64 u22).bind fun n23 =>
  some (.val (.c (.int .i64 n23)))) := by
  unfold y48_2 yrunM; rw [yrun_eq]; kernel_rfl
-- stutter/reduce.either
theorem y49_eq (M : YM) (l : U) : y49 M l =
  (U.len l).bind fun k1 =>
  y49_1 M l ((k1 : Nat) : Int) 0 := by
  unfold y49 yrunM; rw [yrun_eq]; kernel_rfl
theorem y49_1_eq (M : YM) (x5 : U) (x6 x7 : Int) : y49_1 M x5 x6 x7 =
  (if (decide (x7 < x6)) = true then
  (U.idx 1 x5 x7).bind fun v1 =>
  (U.cell v1 0).bind fun c2 =>
  (U.asI .i64 c2).bind fun n3 =>
  (if (!decide (n3 = 0)) = true then
  some (.val (.c (.int .i64 n3)))
  else
  y49_1 M x5 x6 (IntKind.wrap .i64 (x7 + 1)))
  else
  some (.val (.c (.int .i64 0)))) := by
  unfold y49_1 yrunM; rw [yrun_eq]; kernel_rfl
-- stutter/stutterbase.IsGraph
theorem y55_eq (M : YM) (g_0 : Int) (g_1 g_2 : U) : y55 M g_0 g_1 g_2 =
  (y37 M g_0 0 400).bind fun r1 =>
  (Rz.toU r1).bind fun u2 =>
  (U.asB u2).bind fun b3 =>
  (if (!b3) = false then
  (U.len g_1).bind fun k4 =>
  some (decide (g_0 < ((k4 : Nat) : Int)))
  else
  some (!b3)).bind fun q5 =>
  (if q5 = false then
  (U.len g_2).bind fun k6 =>
  some (decide (2000 < ((k6 : Nat) : Int)))
  else
  some q5).bind fun q7 =>
  (if q7 = true then
  some (.val (.c (.bool false)))
  else
  y55_1 M g_0 g_1 g_2 0) := by
  unfold y55 yrunM; rw [yrun_eq]; kernel_rfl
theorem y55_1_eq (M : YM) (g_0 : Int) (g_1 g_2 : U) (i : Int) : y55_1 M g_0 g_1 g_2 i =
  (U.len g_1).bind fun k1 =>
  (if (decide (i < ((k1 : Nat) : Int))) = true then
  (U.idx 1 g_1 i).bind fun v2 =>
  (U.cell v2 0).bind fun c3 =>
  (U.asI .i64 c3).bind fun n4 =>
  (y37 M n4 0 (IntKind.wrap .i64 (g_0 - 1))).bind fun r5 =>
  (Rz.toU r5).bind fun u6 =>
  (U.asB u6).bind fun b7 =>
  (if (!b7) = false then
  (if (decide (0 < i)) = true then
  (U.idx 1 g_1 i).bind fun v8 =>
  (U.idx 1 g_1 (IntKind.wrap .i64 (i - 1))).bind fun v9 =>
  (U.cell v8 0).bind fun c10 =>
  (U.asI .i64 c10).bind fun n11 =>
  (U.cell v9 0).bind fun c12 =>
  (U.asI .i64 c12).bind fun n13 =>
  some (decide (n11 ≤ n13))
  else
  some (decide (0 < i))).bind fun q14 =>
  some q14
  else
  some (!b7)).bind fun q15 =>
  (if q15 = true then
  some (.val (.c (.bool false)))
  else
  y55_1 M g_0 g_1 g_2 (IntKind.wrap .i64 (i + 1)))
  else
  y55_2 M g_0 g_1 g_2 0) := by
  unfold y55_1 yrunM; rw [yrun_eq]; kernel_rfl
theorem y55_2_eq (M : YM) (g_0 : Int) (g_1 g_2 : U) (i : Int) : y55_2 M g_0 g_1 g_2 i =
  (U.len g_2).bind fun k1 =>
  (if (decide (i < ((k1 : Nat) : Int))) = true then
  (U.idx 3 g_2 i).bind fun v2 =>
  (U.struct v2 0 ks2).bind fun f3 =>
  (y37 M ((f3 0).i) 0 (IntKind.wrap .i64 (g_0 - 1))).bind fun r4 =>
  (Rz.toU r4).bind fun u5 =>
  (U.asB u5).bind fun b6 =>
  (if (!b6) = false then
  (y37 M ((f3 1).i) 0 (IntKind.wrap .i64 (g_0 - 1))).bind fun r7 =>
  (Rz.toU r7).bind fun u8 =>
  (U.asB u8).bind fun b9 =>
  some (!b9)
  else
  some (!b6)).bind fun q10 =>
  (if q10 = false then
  (y37 M ((f3 2).i) 0 11).bind fun r11 =>
  (Rz.toU r11).bind fun u12 =>
  (U.asB u12).bind fun b13 =>
  some (!b13)
  else
  some q10).bind fun q14 =>
  (if q14 = false then
  (if (decide (0 < i)) = true then
  (U.idx 3 g_2 (IntKind.wrap .i64 (i - 1))).bind fun v15 =>
  (U.struct v15 0 ks2).bind fun f16 =>
  (y89 M ((f16 0).i) ((f16 1).i) ((f16 2).i)).bind fun r17 =>
  (Rz.asSl r17).bind fun s18 =>
  (y89 M ((f3 0).i) ((f3 1).i) ((f3 2).i)).bind fun r19 =>
  (Rz.asSl r19).bind fun s20 =>
  (y88 M (Sx.fz s18) (Sx.fz s20)).bind fun r21 =>
  (Rz.toU r21).bind fun u22 =>
  (U.asI .i64 u22).bind fun n23 =>
  some (decide (0 ≤ n23))
  else
  some (decide (0 < i))).bind fun q24 =>
  some q24
  else
  some q14).bind fun q25 =>
  (if q25 = true then
  some (.val (.c (.bool false)))
  else
  y55_2 M g_0 g_1 g_2 (IntKind.wrap .i64 (i + 1)))
  else
  some (.val (.c (.bool true)))) := by
  unfold y55_2 yrunM; rw [yrun_eq]; kernel_rfl
-- (*stutter/reduce.graph).dependent
theorem y67_eq (M : YM) (g : U) : y67 M g =
  y67_1 M g false false false false false false false false false false false false false false false false false false false false false false false false false false false false false false false false false false false false false false false false false false false false false false false false false false false false false false false false false false false false false false false false false false false false false false false false false false false false false false false false false false false false false false false false false false false false false false false false false false false false false false false false false false false false false false false false false false false false false false false false false false false false false false false false false false false false false false false false false false false false false false false false 0 (.st [.c (.bool false), .c (.bool false), .c (.bool false), .c (.bool false), .c (.bool false), .c (.bool false), .c (.bool false), .c (.bool false), .c (.bool false), .c (.bool false), .c (.bool false), .c (.bool false), .c (.bool false), .c (.bool false), .c (.bool false), .c (.bool false), .c (.bool false), .c (.bool false), .c (.bool false), .c (.bool false), .c (.bool false), .c (.bool false), .c (.bool false), .c (.bool false), .c (.bool false), .c (.bool false), .c (.bool false), .c (.bool false), .c (.bool false), .c (.bool false), .c (.bool false), .c (.bool false), .c (.bool false), .c (.bool false), .c (.bool false), .c (.bool false), .c (.bool false), .c (.bool false), .c (.bool false), .c (.bool false), .c (.bool false), .c (.bool false), .c (.bool false), .c (.bool false), .c (.bool false), .c (.bool false), .c (.bool false), .c (.bool false), .c (.bool false), .c (.bool false), .c (.bool false), .c (.bool false), .c (.bool false), .c (.bool false), .c (.bool false), .c (.bool false), .c (.bool false), .c (.bool false), .c (.bool false), .c (.bool false), .c (.bool false), .c (.bool false), .c (.bool false), .c (.bool false), .c (.bool false), .c (.bool false), .c (.bool false), .c (.bool false), .c (.bool false), .c (.bool false), .c (.bool false), .c (.bool false), .c (.bool false), .c (.bool false), .c (.bool false), .c (.bool false), .c (.bool false), .c (.bool false), .c (.bool false), .c (.bool false), .c (.bool false), .c (.bool false), .c (.bool false), .c (.bool false), .c (.bool false), .c (.bool false), .c (.bool false), .c (.bool false), .c (.bool false), .c (.bool false), .c (.bool false), .c (.bool false), .c (.bool false), .c (.bool false), .c (.bool false), .c (.bool false), .c (.bool false), .c (.bool false), .c (.bool false), .c (.bool false), .c (.bool false), .c (.bool false), .c (.bool false), .c (.bool false), .c (.bool false), .c (.bool false), .c (.bool false), .c (.bool false), .c (.bool false), .c (.bool false), .c (.bool false), .c (.bool false), .c (.bool false), .c (.bool false), .c (.bool false), .c (.bool false), .c (.bool false), .c (.bool false), .c (.bool false), .c (.bool false), .c (.bool false), .c (.bool false), .c (.bool false), .c (.bool false), .c (.bool false), .c (.bool false), .c (.bool false), .c (.bool false), .c (.bool false), .c (.bool false), .c (.bool false), .c (.bool false), .c (.bool false), .c (.bool false), .c (.bool false), .c (.bool false), .c (.bool false), .c (.bool false), .c (.bool false), .c (.bool false), .c (.bool false), .c (.bool false), .c (.bool false), .c (.bool false)]) := by
  unfold y67 yrunM; rw [yrun_eq]; kernel_rfl
theorem y67_1_eq (M : YM) (g : U) (x2_0 x2_1 x2_2 x2_3 x2_4 x2_5 x2_6 x2_7 x2_8 x2_9 x2_10 x2_11 x2_12 x2_13 x2_14 x2_15 x2_16 x2_17 x2_18 x2_19 x2_20 x2_21 x2_22 x2_23 x2_24 x2_25 x2_26 x2_27 x2_28 x2_29 x2_30 x2_31 x2_32 x2_33 x2_34 x2_35 x2_36 x2_37 x2_38 x2_39 x2_40 x2_41 x2_42 x2_43 x2_44 x2_45 x2_46 x2_47 x2_48 x2_49 x2_50 x2_51 x2_52 x2_53 x2_54 x2_55 x2_56 x2_57 x2_58 x2_59 x2_60 x2_61 x2_62 x2_63 x2_64 x2_65 x2_66 x2_67 x2_68 x2_69 x2_70 x2_71 x2_72 x2_73 x2_74 x2_75 x2_76 x2_77 x2_78 x2_79 x2_80 x2_81 x2_82 x2_83 x2_84 x2_85 x2_86 x2_87 x2_88 x2_89 x2_90 x2_91 x2_92 x2_93 x2_94 x2_95 x2_96 x2_97 x2_98 x2_99 x2_100 x2_101 x2_102 x2_103 x2_104 x2_105 x2_106 x2_107 x2_108 x2_109 x2_110 x2_111 x2_112 x2_113 x2_114 x2_115 x2_116 x2_117 x2_118 x2_119 x2_120 x2_121 x2_122 x2_123 x2_124 x2_125 x2_126 x2_127 x2_128 x2_129 x2_130 x2_131 x2_132 x2_133 x2_134 x2_135 x2_136 x2_137 x2_138 x2_139 x2_140 x2_141 x2_142 x2_143 : Bool) (x8 : Int) (out : U) : y67_1 M g x2_0 x2_1 x2_2 x2_3 x2_4 x2_5 x2_6 x2_7 x2_8 x2_9 x2_10 x2_11 x2_12 x2_13 x2_14 x2_15 x2_16 x2_17 x2_18 x2_19 x2_20 x2_21 x2_22 x2_23 x2_24 x2_25 x2_26 x2_27 x2_28 x2_29 x2_30 x2_31 x2_32 x2_33 x2_34 x2_35 x2_36 x2_37 x2_38 x2_39 x2_40 x2_41 x2_42 x2_43 x2_44 x2_45 x2_46 x2_47 x2_48 x2_49 x2_50 x2_51 x2_52 x2_53 x2_54 x2_55 x2_56 x2_57 x2_58 x2_59 x2_60 x2_61 x2_62 x2_63 x2_64 x2_65 x2_66 x2_67 x2_68 x2_69 x2_70 x2_71 x2_72 x2_73 x2_74 x2_75 x2_76 x2_77 x2_78 x2_79 x2_80 x2_81 x2_82 x2_83 x2_84 x2_85 x2_86 x2_87 x2_88 x2_89 x2_90 x2_91 x2_92 x2_93 x2_94 x2_95 x2_96 x2_97 x2_98 x2_99 x2_100 x2_101 x2_102 x2_103 x2_104 x2_105 x2_106 x2_107 x2_108 x2_109 x2_110 x2_111 x2_112 x2_113 x2_114 x2_115 x2_116 x2_117 x2_118 x2_119 x2_120 x2_121 x2_122 x2_123 x2_124 x2_125 x2_126 x2_127 x2_128 x2_129 x2_130 x2_131 x2_132 x2_133 x2_134 x2_135 x2_136 x2_137 x2_138 x2_139 x2_140 x2_141 x2_142 x2_143 x8 out =
  (if (decide (x8 < 12)) = true then
  (if 0 ≤ x8 ∧ x8 < ((12 : Nat) : Int) then
  (if 0 ≤ x8 ∧ x8 < ((12 : Nat) : Int) then
  (U.setc out ((0 + x8.toNat * 12) + x8.toNat * 1) (.c (.bool true))).bind fun v1 =>
  y67_2 M g x2_0 x2_1 x2_2 x2_3 x2_4 x2_5 x2_6 x2_7 x2_8 x2_9 x2_10 x2_11 x2_12 x2_13 x2_14 x2_15 x2_16 x2_17 x2_18 x2_19 x2_20 x2_21 x2_22 x2_23 x2_24 x2_25 x2_26 x2_27 x2_28 x2_29 x2_30 x2_31 x2_32 x2_33 x2_34 x2_35 x2_36 x2_37 x2_38 x2_39 x2_40 x2_41 x2_42 x2_43 x2_44 x2_45 x2_46 x2_47 x2_48 x2_49 x2_50 x2_51 x2_52 x2_53 x2_54 x2_55 x2_56 x2_57 x2_58 x2_59 x2_60 x2_61 x2_62 x2_63 x2_64 x2_65 x2_66 x2_67 x2_68 x2_69 x2_70 x2_71 x2_72 x2_73 x2_74 x2_75 x2_76 x2_77 x2_78 x2_79 x2_80 x2_81 x2_82 x2_83 x2_84 x2_85 x2_86 x2_87 x2_88 x2_89 x2_90 x2_91 x2_92 x2_93 x2_94 x2_95 x2_96 x2_97 x2_98 x2_99 x2_100 x2_101 x2_102 x2_103 x2_104 x2_105 x2_106 x2_107 x2_108 x2_109 x2_110 x2_111 x2_112 x2_113 x2_114 x2_115 x2_116 x2_117 x2_118 x2_119 x2_120 x2_121 x2_122 x2_123 x2_124 x2_125 x2_126 x2_127 x2_128 x2_129 x2_130 x2_131 x2_132 x2_133 x2_134 x2_135 x2_136 x2_137 x2_138 x2_139 x2_140 x2_141 x2_142 x2_143 x8 x8 x8 0 v1
  else
  none)
  else
  none)
  else
  (U.part out 0 144).bind fun v2 =>
  (U.split 144 v2).bind fun f3 =>
  some (.val (.st [(f3 0), (f3 1), (f3 2), (f3 3), (f3 4), (f3 5), (f3 6), (f3 7), (f3 8), (f3 9), (f3 10), (f3 11), (f3 12), (f3 13), (f3 14), (f3 15), (f3 16), (f3 17), (f3 18), (f3 19), (f3 20), (f3 21), (f3 22), (f3 23), (f3 24), (f3 25), (f3 26), (f3 27), (f3 28), (f3 29), (f3 30), (f3 31), (f3 32), (f3 33), (f3 34), (f3 35), (f3 36), (f3 37), (f3 38), (f3 39), (f3 40), (f3 41), (f3 42), (f3 43), (f3 44), (f3 45), (f3 46), (f3 47), (f3 48), (f3 49), (f3 50), (f3 51), (f3 52), (f3 53), (f3 54), (f3 55), (f3 56), (f3 57), (f3 58), (f3 59), (f3 60), (f3 61), (f3 62), (f3 63), (f3 64), (f3 65), (f3 66), (f3 67), (f3 68), (f3 69), (f3 70), (f3 71), (f3 72), (f3 73), (f3 74), (f3 75), (f3 76), (f3 77), (f3 78), (f3 79), (f3 80), (f3 81), (f3 82), (f3 83), (f3 84), (f3 85), (f3 86), (f3 87), (f3 88), (f3 89), (f3 90), (f3 91), (f3 92), (f3 93), (f3 94), (f3 95), (f3 96), (f3 97), (f3 98), (f3 99), (f3 100), (f3 101), (f3 102), (f3 103), (f3 104), (f3 105), (f3 106), (f3 107), (f3 108), (f3 109), (f3 110), (f3 111), (f3 112), (f3 113), (f3 114), (f3 115), (f3 116), (f3 117), (f3 118), (f3 119), (f3 120), (f3 121), (f3 122), (f3 123), (f3 124), (f3 125), (f3 126), (f3 127), (f3 128), (f3 129), (f3 130), (f3 131), (f3 132), (f3 133), (f3 134), (f3 135), (f3 136), (f3 137), (f3 138), (f3 139), (f3 140), (f3 141), (f3 142), (f3 143)]))) := by
  unfold y67_1 yrunM; rw [yrun_eq]; kernel_rfl
theorem y67_2_eq (M : YM) (g : U) (x2_0 x2_1 x2_2 x2_3 x2_4 x2_5 x2_6 x2_7 x2_8 x2_9 x2_10 x2_11 x2_12 x2_13 x2_14 x2_15 x2_16 x2_17 x2_18 x2_19 x2_20 x2_21 x2_22 x2_23 x2_24 x2_25 x2_26 x2_27 x2_28 x2_29 x2_30 x2_31 x2_32 x2_33 x2_34 x2_35 x2_36 x2_37 x2_38 x2_39 x2_40 x2_41 x2_42 x2_43 x2_44 x2_45 x2_46 x2_47 x2_48 x2_49 x2_50 x2_51 x2_52 x2_53 x2_54 x2_55 x2_56 x2_57 x2_58 x2_59 x2_60 x2_61 x2_62 x2_63 x2_64 x2_65 x2_66 x2_67 x2_68 x2_69 x2_70 x2_71 x2_72 x2_73 x2_74 x2_75 x2_76 x2_77 x2_78 x2_79 x2_80 x2_81 x2_82 x2_83 x2_84 x2_85 x2_86 x2_87 x2_88 x2_89 x2_90 x2_91 x2_92 x2_93 x2_94 x2_95 x2_96 x2_97 x2_98 x2_99 x2_100 x2_101 x2_102 x2_103 x2_104 x2_105 x2_106 x2_107 x2_108 x2_109 x2_110 x2_111 x2_112 x2_113 x2_114 x2_115 x2_116 x2_117 x2_118 x2_119 x2_120 x2_121 x2_122 x2_123 x2_124 x2_125 x2_126 x2_127 x2_128 x2_129 x2_130 x2_131 x2_132 x2_133 x2_134 x2_135 x2_136 x2_137 x2_138 x2_139 x2_140 x2_141 x2_142 x2_143 : Bool) (a x8 x15 x16 : Int) (out : U) : y67_2 M g x2_0 x2_1 x2_2 x2_3 x2_4 x2_5 x2_6 x2_7 x2_8 x2_9 x2_10 x2_11 x2_12 x2_13 x2_14 x2_15 x2_16 x2_17 x2_18 x2_19 x2_20 x2_21 x2_22 x2_23 x2_24 x2_25 x2_26 x2_27 x2_28 x2_29 x2_30 x2_31 x2_32 x2_33 x2_34 x2_35 x2_36 x2_37 x2_38 x2_39 x2_40 x2_41 x2_42 x2_43 x2_44 x2_45 x2_46 x2_47 x2_48 x2_49 x2_50 x2_51 x2_52 x2_53 x2_54 x2_55 x2_56 x2_57 x2_58 x2_59 x2_60 x2_61 x2_62 x2_63 x2_64 x2_65 x2_66 x2_67 x2_68 x2_69 x2_70 x2_71 x2_72 x2_73 x2_74 x2_75 x2_76 x2_77 x2_78 x2_79 x2_80 x2_81 x2_82 x2_83 x2_84 x2_85 x2_86 x2_87 x2_88 x2_89 x2_90 x2_91 x2_92 x2_93 x2_94 x2_95 x2_96 x2_97 x2_98 x2_99 x2_100 x2_101 x2_102 x2_103 x2_104 x2_105 x2_106 x2_107 x2_108 x2_109 x2_110 x2_111 x2_112 x2_113 x2_114 x2_115 x2_116 x2_117 x2_118 x2_119 x2_120 x2_121 x2_122 x2_123 x2_124 x2_125 x2_126 x2_127 x2_128 x2_129 x2_130 x2_131 x2_132 x2_133 x2_134 x2_135 x2_136 x2_137 x2_138 x2_139 x2_140 x2_141 x2_142 x2_143 a x8 x15 x16 out =
  (if (decide (x16 < x15)) = true then
  (y70 M g a x16).bind fun r1 =>
  (Rz.asTup r1).bind fun t2 =>
  (t2[0]?).bind fun u3 =>
  (U.exact u3 ks0).bind fun f4 =>
  (t2[1]?).bind fun u5 =>
  (U.asB u5).bind fun b6 =>
  (if 0 ≤ a ∧ a < ((12 : Nat) : Int) then
  (if 0 ≤ x16 ∧ x16 < ((12 : Nat) : Int) then
  (if 0 ≤ x16 ∧ x16 < ((12 : Nat) : Int) then
  (U.setc out ((0 + a.toNat * 12) + x16.toNat * 1) (.c (.bool b6))).bind fun v7 =>
  (if 0 ≤ a ∧ a < ((12 : Nat) : Int) then
  (U.setc v7 ((0 + x16.toNat * 12) + a.toNat * 1) (.c (.bool b6))).bind fun v8 =>
  y67_2 M g x2_0 x2_1 x2_2 x2_3 x2_4 x2_5 x2_6 x2_7 x2_8 x2_9 x2_10 x2_11 x2_12 x2_13 x2_14 x2_15 x2_16 x2_17 x2_18 x2_19 x2_20 x2_21 x2_22 x2_23 x2_24 x2_25 x2_26 x2_27 x2_28 x2_29 x2_30 x2_31 x2_32 x2_33 x2_34 x2_35 x2_36 x2_37 x2_38 x2_39 x2_40 x2_41 x2_42 x2_43 x2_44 x2_45 x2_46 x2_47 x2_48 x2_49 x2_50 x2_51 x2_52 x2_53 x2_54 x2_55 x2_56 x2_57 x2_58 x2_59 x2_60 x2_61 x2_62 x2_63 x2_64 x2_65 x2_66 x2_67 x2_68 x2_69 x2_70 x2_71 x2_72 x2_73 x2_74 x2_75 x2_76 x2_77 x2_78 x2_79 x2_80 x2_81 x2_82 x2_83 x2_84 x2_85 x2_86 x2_87 x2_88 x2_89 x2_90 x2_91 x2_92 x2_93 x2_94 x2_95 x2_96 x2_97 x2_98 x2_99 x2_100 x2_101 x2_102 x2_103 x2_104 x2_105 x2_106 x2_107 x2_108 x2_109 x2_110 x2_111 x2_112 x2_113 x2_114 x2_115 x2_116 x2_117 x2_118 x2_119 x2_120 x2_121 x2_122 x2_123 x2_124 x2_125 x2_126 x2_127 x2_128 x2_129 x2_130 x2_131 x2_132 x2_133 x2_134 x2_135 x2_136 x2_137 x2_138 x2_139 x2_140 x2_141 x2_142 x2_143 a x8 x15 (IntKind.wrap .i64 (x16 + 1)) v8
  else
  none)
  else
  none)
  else
  none)
  else
  none)
  else
  y67_1 M g x2_0 x2_1 x2_2 x2_3 x2_4 x2_5 x2_6 x2_7 x2_8 x2_9 x2_10 x2_11 x2_12 x2_13 x2_14 x2_15 x2_16 x2_17 x2_18 x2_19 x2_20 x2_21 x2_22 x2_23 x2_24 x2_25 x2_26 x2_27 x2_28 x2_29 x2_30 x2_31 x2_32 x2_33 x2_34 x2_35 x2_36 x2_37 x2_38 x2_39 x2_40 x2_41 x2_42 x2_43 x2_44 x2_45 x2_46 x2_47 x2_48 x2_49 x2_50 x2_51 x2_52 x2_53 x2_54 x2_55 x2_56 x2_57 x2_58 x2_59 x2_60 x2_61 x2_62 x2_63 x2_64 x2_65 x2_66 x2_67 x2_68 x2_69 x2_70 x2_71 x2_72 x2_73 x2_74 x2_75 x2_76 x2_77 x2_78 x2_79 x2_80 x2_81 x2_82 x2_83 x2_84 x2_85 x2_86 x2_87 x2_88 x2_89 x2_90 x2_91 x2_92 x2_93 x2_94 x2_95 x2_96 x2_97 x2_98 x2_99 x2_100 x2_101 x2_102 x2_103 x2_104 x2_105 x2_106 x2_107 x2_108 x2_109 x2_110 x2_111 x2_112 x2_113 x2_114 x2_115 x2_116 x2_117 x2_118 x2_119 x2_120 x2_121 x2_122 x2_123 x2_124 x2_125 x2_126 x2_127 x2_128 x2_129 x2_130 x2_131 x2_132 x2_133 x2_134 x2_135 x2_136 x2_137 x2_138 x2_139 x2_140 x2_141 x2_142 x2_143 (IntKind.wrap .i64 (x8 + 1)) out) := by
  unfold y67_2 yrunM; rw [yrun_eq]; kernel_rfl
-- stutter/reduce.unless
theorem y68_eq (M : YM) (holds : Bool) (e : Int) : y68 M holds e =
  (if holds = true then
  some (.val (.c (.int .i64 0)))
  else
  some (.val (.c (.int .i64 e)))) := by
  unfold y68 yrunM; rw [yrun_eq]; kernel_rfl
-- stutter/reduce.in
theorem y69_eq (M : YM) (n lo hi : Int) : y69 M n lo hi =
  (if (decide (lo ≤ n)) = true then
  some (decide (n ≤ hi))
  else
  some (decide (lo ≤ n))).bind fun q1 =>
  some (.val (.c (.bool q1))) := by
  unfold y69 yrunM; rw [yrun_eq]; kernel_rfl
-- (*stutter/reduce.graph).clash
theorem y70_eq (M : YM) (g : U) (a b : Int) : y70 M g a b =
  (U.asR g).bind fun a1 =>
  (U.cell a1.1 a1.2).bind fun c2 =>
  (U.asI .i64 c2).bind fun n3 =>
  y70_1 M g a b 0 0 0 0 n3 0 := by
  unfold y70 yrunM; rw [yrun_eq]; kernel_rfl
theorem y70_1_eq (M : YM) (g : U) (a b x6_0 x6_1 x6_2 x6_3 x26 x27 : Int) : y70_1 M g a b x6_0 x6_1 x6_2 x6_3 x26 x27 =
  (if (decide (x27 < x26)) = true then
  (U.asR g).bind fun a1 =>
  (U.cell a1.1 (a1.2 + 4)).bind fun c2 =>
  (U.idx 12 c2 x27).bind fun v3 =>
  (if 0 ≤ a ∧ a < ((12 : Nat) : Int) then
  (U.cell v3 (0 + a.toNat * 1)).bind fun c4 =>
  (U.len c4).bind fun k5 =>
  (if (decide (((k5 : Nat) : Int) = 0)) = false then
  (U.asR g).bind fun a6 =>
  (U.cell a6.1 (a6.2 + 4)).bind fun c7 =>
  (U.idx 12 c7 x27).bind fun v8 =>
  (if 0 ≤ b ∧ b < ((12 : Nat) : Int) then
  (U.cell v8 (0 + b.toNat * 1)).bind fun c9 =>
  (U.len c9).bind fun k10 =>
  some (decide (((k10 : Nat) : Int) = 0))
  else
  none)
  else
  some (decide (((k5 : Nat) : Int) = 0))).bind fun q11 =>
  (if q11 = true then
  y70_1 M g a b x6_0 x6_1 x6_2 x6_3 x26 (IntKind.wrap .i64 (x27 + 1))
  else
  (U.asR g).bind fun a12 =>
  (U.cell a12.1 (a12.2 + 4)).bind fun c13 =>
  (U.idx 12 c13 x27).bind fun v14 =>
  (if 0 ≤ a ∧ a < ((12 : Nat) : Int) then
  (U.cell v14 (0 + a.toNat * 1)).bind fun c15 =>
  (U.len c15).bind fun k16 =>
  y70_2 M g a b x6_0 x6_1 x6_2 x6_3 x27 x26 x27 c15 ((k16 : Nat) : Int) 0
  else
  none))
  else
  none)
  else
  some (.tup [.st [.c (.int .i64 0), .c (.int .i64 0), .c (.int .i64 0), .c (.int .i64 0)], .c (.bool false)])) := by
  unfold y70_1 yrunM; rw [yrun_eq]; kernel_rfl
theorem y70_2_eq (M : YM) (g : U) (a b x6_0 x6_1 x6_2 x6_3 s x26 x27 : Int) (x62 : U) (x63 x64 : Int) : y70_2 M g a b x6_0 x6_1 x6_2 x6_3 s x26 x27 x62 x63 x64 =
  (if (decide (x64 < x63)) = true then
  (U.idx 1 x62 x64).bind fun v1 =>
  (U.cell v1 0).bind fun c2 =>
  (U.asI .i64 c2).bind fun n3 =>
  (U.asR g).bind fun a4 =>
  (U.cell a4.1 (a4.2 + 4)).bind fun c5 =>
  (U.idx 12 c5 s).bind fun v6 =>
  (if 0 ≤ b ∧ b < ((12 : Nat) : Int) then
  (U.cell v6 (0 + b.toNat * 1)).bind fun c7 =>
  (U.len c7).bind fun k8 =>
  y70_3 M g a b x6_0 x6_1 x6_2 x6_3 s n3 x26 x27 x62 x63 x64 c7 ((k8 : Nat) : Int) 0
  else
  none)
  else
  (U.asR g).bind fun a9 =>
  (U.cell a9.1 (a9.2 + 4)).bind fun c10 =>
  (U.idx 12 c10 s).bind fun v11 =>
  (if 0 ≤ a ∧ a < ((12 : Nat) : Int) then
  (U.cell v11 (0 + a.toNat * 1)).bind fun c12 =>
  (U.len c12).bind fun k13 =>
  y70_4 M g a b x6_0 x6_1 x6_2 x6_3 s x26 x27 c12 ((k13 : Nat) : Int) 0
  else
  none)) := by
  unfold y70_2 yrunM; rw [yrun_eq]; kernel_rfl
theorem y70_3_eq (M : YM) (g : U) (a b x6_0 x6_1 x6_2 x6_3 s i x26 x27 : Int) (x62 : U) (x63 x64 : Int) (x76 : U) (x77 x78 : Int) : y70_3 M g a b x6_0 x6_1 x6_2 x6_3 s i x26 x27 x62 x63 x64 x76 x77 x78 =
  (if (decide (x78 < x77)) = true then
  (U.idx 1 x76 x78).bind fun v1 =>
  (U.cell v1 0).bind fun c2 =>
  (U.asI .i64 c2).bind fun n3 =>
  (U.asR g).bind fun a4 =>
  (U.asR g).bind fun a5 =>
  (U.cell a4.1 (a4.2 + 2)).bind fun c6 =>
  (U.idx 3 c6 i).bind fun v7 =>
  (U.cell v7 1).bind fun c8 =>
  (U.asI .i64 c8).bind fun n9 =>
  (U.cell a5.1 (a5.2 + 2)).bind fun c10 =>
  (U.idx 3 c10 n3).bind fun v11 =>
  (U.cell v11 1).bind fun c12 =>
  (U.asI .i64 c12).bind fun n13 =>
  (y93 M g n9 b n13 a).bind fun r14 =>
  (Rz.toU r14).bind fun u15 =>
  (U.asB u15).bind fun b16 =>
  (if (!b16) = true then
  some (.tup [.st [.c (.int .i64 s), .c (.int .i64 1), .c (.int .i64 i), .c (.int .i64 n3)], .c (.bool true)])
  else
  y70_3 M g a b x6_0 x6_1 x6_2 x6_3 s i x26 x27 x62 x63 x64 x76 x77 (IntKind.wrap .i64 (x78 + 1)))
  else
  y70_2 M g a b x6_0 x6_1 x6_2 x6_3 s x26 x27 x62 x63 (IntKind.wrap .i64 (x64 + 1))) := by
  unfold y70_3 yrunM; rw [yrun_eq]; kernel_rfl
theorem y70_4_eq (M : YM) (g : U) (a b x6_0 x6_1 x6_2 x6_3 s x26 x27 : Int) (x119 : U) (x120 x121 : Int) : y70_4 M g a b x6_0 x6_1 x6_2 x6_3 s x26 x27 x119 x120 x121 =
  (if (decide (x121 < x120)) = true then
  (U.idx 1 x119 x121).bind fun v1 =>
  (U.cell v1 0).bind fun c2 =>
  (U.asI .i64 c2).bind fun n3 =>
  (U.asR g).bind fun a4 =>
  (U.asR g).bind fun a5 =>
  (U.cell a4.1 (a4.2 + 4)).bind fun c6 =>
  (U.cell a5.1 (a5.2 + 2)).bind fun c7 =>
  (U.idx 3 c7 n3).bind fun v8 =>
  (U.cell v8 1).bind fun c9 =>
  (U.asI .i64 c9).bind fun n10 =>
  (U.idx 12 c6 n10).bind fun v11 =>
  (if 0 ≤ b ∧ b < ((12 : Nat) : Int) then
  (U.cell v11 (0 + b.toNat * 1)).bind fun c12 =>
  (U.len c12).bind fun k13 =>
  y70_5 M g a b x6_0 x6_1 x6_2 x6_3 s n3 x26 x27 x119 x120 x121 c12 ((k13 : Nat) : Int) 0
  else
  none)
  else
  (U.asR g).bind fun a14 =>
  (U.cell a14.1 (a14.2 + 4)).bind fun c15 =>
  (U.idx 12 c15 s).bind fun v16 =>
  (if 0 ≤ b ∧ b < ((12 : Nat) : Int) then
  (U.cell v16 (0 + b.toNat * 1)).bind fun c17 =>
  (U.len c17).bind fun k18 =>
  y70_6 M g a b x6_0 x6_1 x6_2 x6_3 s x26 x27 c17 ((k18 : Nat) : Int) 0 (⟨false, 0, []⟩ : Sx)
  else
  none)) := by
  unfold y70_4 yrunM; rw [yrun_eq]; kernel_rfl
theorem y70_5_eq (M : YM) (g : U) (a b x6_0 x6_1 x6_2 x6_3 s i x26 x27 : Int) (x119 : U) (x120 x121 : Int) (x141 : U) (x142 x143 : Int) : y70_5 M g a b x6_0 x6_1 x6_2 x6_3 s i x26 x27 x119 x120 x121 x141 x142 x143 =
  (if (decide (x143 < x142)) = true then
  (U.idx 1 x141 x143).bind fun v1 =>
  (U.cell v1 0).bind fun c2 =>
  (U.asI .i64 c2).bind fun n3 =>
  (y94 M g s i n3).bind fun r4 =>
  (Rz.toU r4).bind fun u5 =>
  (U.asB u5).bind fun b6 =>
  (if (!b6) = true then
  some (.tup [.st [.c (.int .i64 s), .c (.int .i64 2), .c (.int .i64 i), .c (.int .i64 n3)], .c (.bool true)])
  else
  y70_5 M g a b x6_0 x6_1 x6_2 x6_3 s i x26 x27 x119 x120 x121 x141 x142 (IntKind.wrap .i64 (x143 + 1)))
  else
  y70_4 M g a b x6_0 x6_1 x6_2 x6_3 s x26 x27 x119 x120 (IntKind.wrap .i64 (x121 + 1))) := by
  unfold y70_5 yrunM; rw [yrun_eq]; kernel_rfl
theorem y70_6_eq (M : YM) (g : U) (a b x6_0 x6_1 x6_2 x6_3 s x26 x27 : Int) (x167 : U) (x168 x169 : Int) (found : Sx) : y70_6 M g a b x6_0 x6_1 x6_2 x6_3 s x26 x27 x167 x168 x169 found =
  (if (decide (x169 < x168)) = true then
  (U.idx 1 x167 x169).bind fun v1 =>
  (U.cell v1 0).bind fun c2 =>
  (U.asI .i64 c2).bind fun n3 =>
  (U.asR g).bind fun a4 =>
  (U.asR g).bind fun a5 =>
  (U.cell a4.1 (a4.2 + 4)).bind fun c6 =>
  (U.cell a5.1 (a5.2 + 2)).bind fun c7 =>
  (U.idx 3 c7 n3).bind fun v8 =>
  (U.cell v8 1).bind fun c9 =>
  (U.asI .i64 c9).bind fun n10 =>
  (U.idx 12 c6 n10).bind fun v11 =>
  (if 0 ≤ a ∧ a < ((12 : Nat) : Int) then
  (U.cell v11 (0 + a.toNat * 1)).bind fun c12 =>
  (U.len c12).bind fun k13 =>
  y70_7 M g a b x6_0 x6_1 x6_2 x6_3 s n3 x26 x27 x167 x168 x169 c12 ((k13 : Nat) : Int) 0 found
  else
  none)
  else
  (if (decide (0 < (((found.es).length : Nat) : Int))) = true then
  (y95 M (Sx.fz found) (.fn 96 [] [])).bind fun r14 =>
  (Rz.toU r14).bind fun u15 =>
  (U.exact u15 ks0).bind fun f16 =>
  some (.tup [.st [.c (.int .i64 ((f16 0).i)), .c (.int .i64 ((f16 1).i)), .c (.int .i64 ((f16 2).i)), .c (.int .i64 ((f16 3).i))], .c (.bool true)])
  else
  y70_1 M g a b x6_0 x6_1 x6_2 x6_3 x26 (IntKind.wrap .i64 (x27 + 1)))) := by
  unfold y70_6 yrunM; rw [yrun_eq]; kernel_rfl
theorem y70_7_eq (M : YM) (g : U) (a b x6_0 x6_1 x6_2 x6_3 s k x26 x27 : Int) (x167 : U) (x168 x169 : Int) (x189 : U) (x190 x191 : Int) (found : Sx) : y70_7 M g a b x6_0 x6_1 x6_2 x6_3 s k x26 x27 x167 x168 x169 x189 x190 x191 found =
  (if (decide (x191 < x190)) = true then
  (U.idx 1 x189 x191).bind fun v1 =>
  (U.cell v1 0).bind fun c2 =>
  (U.asI .i64 c2).bind fun n3 =>
  (y94 M g s k n3).bind fun r4 =>
  (Rz.toU r4).bind fun u5 =>
  (U.asB u5).bind fun b6 =>
  (if (!b6) = true then
  (Sx.app found 4 ([.st [.c (.int .i64 s), .c (.int .i64 3), .c (.int .i64 n3), .c (.int .i64 k)]])).bind fun s7 =>
  y70_8 M g a b x6_0 x6_1 x6_2 x6_3 s k x26 x27 x167 x168 x169 x189 x190 x191 s7
  else
  y70_8 M g a b x6_0 x6_1 x6_2 x6_3 s k x26 x27 x167 x168 x169 x189 x190 x191 found)
  else
  y70_6 M g a b x6_0 x6_1 x6_2 x6_3 s x26 x27 x167 x168 (IntKind.wrap .i64 (x169 + 1)) found) := by
  unfold y70_7 yrunM; rw [yrun_eq]; kernel_rfl
theorem y70_8_eq (M : YM) (g : U) (a b x6_0 x6_1 x6_2 x6_3 s k x26 x27 : Int) (x167 : U) (x168 x169 : Int) (x189 : U) (x190 x191 : Int) (found : Sx) : y70_8 M g a b x6_0 x6_1 x6_2 x6_3 s k x26 x27 x167 x168 x169 x189 x190 x191 found =
  y70_7 M g a b x6_0 x6_1 x6_2 x6_3 s k x26 x27 x167 x168 x169 x189 x190 (IntKind.wrap .i64 (x191 + 1)) found := by
  unfold y70_8 yrunM; rw [yrun_eq]; kernel_rfl
-- stutter/stutterref19.steps
theorem y71_eq (M : YM) (g_0 : Int) (g_1 g_2 : U) (s a : Int) : y71 M g_0 g_1 g_2 s a =
  y71_1 M s a g_0 g_1 g_2 0 (⟨false, 0, []⟩ : Sx) := by
  unfold y71 yrunM; rw [yrun_eq]; kernel_rfl
theorem y71_1_eq (M : YM) (s a g_0 : Int) (g_1 g_2 : U) (i : Int) (out : Sx) : y71_1 M s a g_0 g_1 g_2 i out =
  (U.len g_2).bind fun k1 =>
  (if (decide (i < ((k1 : Nat) : Int))) = true then
  (U.idx 3 g_2 i).bind fun v2 =>
  (U.cell v2 0).bind fun c3 =>
  (U.asI .i64 c3).bind fun n4 =>
  (if (decide (n4 = s)) = true then
  (U.idx 3 g_2 i).bind fun v5 =>
  (U.cell v5 2).bind fun c6 =>
  (U.asI .i64 c6).bind fun n7 =>
  some (decide (n7 = a))
  else
  some (decide (n4 = s))).bind fun q8 =>
  (if q8 = true then
  (Sx.app out 1 ([.c (.int .i64 i)])).bind fun s9 =>
  y71_2 M s a g_0 g_1 g_2 i s9
  else
  y71_2 M s a g_0 g_1 g_2 i out)
  else
  (if scals out.es = true then
  some (.sl out)
  else
  none)) := by
  unfold y71_1 yrunM; rw [yrun_eq]; kernel_rfl
theorem y71_2_eq (M : YM) (s a g_0 : Int) (g_1 g_2 : U) (i : Int) (out : Sx) : y71_2 M s a g_0 g_1 g_2 i out =
  y71_1 M s a g_0 g_1 g_2 (IntKind.wrap .i64 (i + 1)) out := by
  unfold y71_2 yrunM; rw [yrun_eq]; kernel_rfl
-- stutter/stutterref19.meets
theorem y72_eq (M : YM) (g_0 : Int) (g_1 g_2 : U) (x y : Int) : y72 M g_0 g_1 g_2 x y =
  (U.idx 3 g_2 x).bind fun v1 =>
  (U.idx 3 g_2 y).bind fun v2 =>
  (U.struct v1 0 ks2).bind fun f3 =>
  (U.struct v2 0 ks2).bind fun f4 =>
  y72_1 M g_0 g_1 g_2 ((f3 0).i) ((f3 1).i) ((f3 2).i) ((f4 0).i) ((f4 1).i) ((f4 2).i) 0 := by
  unfold y72 yrunM; rw [yrun_eq]; kernel_rfl
theorem y72_1_eq (M : YM) (g_0 : Int) (g_1 g_2 : U) (t_0 t_1 t_2 u_0 u_1 u_2 v : Int) : y72_1 M g_0 g_1 g_2 t_0 t_1 t_2 u_0 u_1 u_2 v =
  (if (decide (v < g_0)) = true then
  (y99 M g_0 g_1 g_2 t_1 u_2 v).bind fun r1 =>
  (Rz.toU r1).bind fun u2 =>
  (U.asB u2).bind fun b3 =>
  (if b3 = true then
  (y99 M g_0 g_1 g_2 u_1 t_2 v).bind fun r4 =>
  (Rz.toU r4).bind fun u5 =>
  (U.asB u5).bind fun b6 =>
  some b6
  else
  some b3).bind fun q7 =>
  (if q7 = true then
  some (.val (.c (.bool true)))
  else
  y72_1 M g_0 g_1 g_2 t_0 t_1 t_2 u_0 u_1 u_2 (IntKind.wrap .i64 (v + 1)))
  else
  some (.val (.c (.bool false)))) := by
  unfold y72_1 yrunM; rw [yrun_eq]; kernel_rfl
-- stutter/stutterref19.turns
theorem y73_eq (M : YM) (g_0 : Int) (g_1 g_2 : U) (x y : Int) : y73 M g_0 g_1 g_2 x y =
  (U.idx 3 g_2 x).bind fun v1 =>
  (U.idx 3 g_2 y).bind fun v2 =>
  (U.struct v1 0 ks2).bind fun f3 =>
  (U.struct v2 0 ks2).bind fun f4 =>
  y73_1 M g_0 g_1 g_2 ((f3 0).i) ((f3 1).i) ((f3 2).i) ((f4 0).i) ((f4 1).i) ((f4 2).i) 0 := by
  unfold y73 yrunM; rw [yrun_eq]; kernel_rfl
theorem y73_1_eq (M : YM) (g_0 : Int) (g_1 g_2 : U) (first_0 first_1 first_2 second_0 second_1 second_2 u : Int) : y73_1 M g_0 g_1 g_2 first_0 first_1 first_2 second_0 second_1 second_2 u =
  (if (decide (u < g_0)) = true then
  (y99 M g_0 g_1 g_2 first_0 second_2 u).bind fun r1 =>
  (Rz.toU r1).bind fun u2 =>
  (U.asB u2).bind fun b3 =>
  (if b3 = true then
  (y99 M g_0 g_1 g_2 u first_2 second_1).bind fun r4 =>
  (Rz.toU r4).bind fun u5 =>
  (U.asB u5).bind fun b6 =>
  some b6
  else
  some b3).bind fun q7 =>
  (if q7 = true then
  some (.val (.c (.bool true)))
  else
  y73_1 M g_0 g_1 g_2 first_0 first_1 first_2 second_0 second_1 second_2 (IntKind.wrap .i64 (u + 1)))
  else
  some (.val (.c (.bool false)))) := by
  unfold y73_1 yrunM; rw [yrun_eq]; kernel_rfl
-- stutter/reduce.steps
theorem y78_eq (M : YM) (a_0 a_1 a_2 b_0 b_1 b_2 : Int) : y78 M a_0 a_1 a_2 b_0 b_1 b_2 =
  (y98 M a_0 b_0).bind fun r1 =>
  (Rz.toU r1).bind fun u2 =>
  (U.asI .i64 u2).bind fun n3 =>
  (y98 M a_1 b_1).bind fun r4 =>
  (Rz.toU r4).bind fun u5 =>
  (U.asI .i64 u5).bind fun n6 =>
  (y98 M a_2 b_2).bind fun r7 =>
  (Rz.toU r7).bind fun u8 =>
  (U.asI .i64 u8).bind fun n9 =>
  (y97 M (Sx.fz (⟨true, 1, [.c (.int .i64 n3), .c (.int .i64 n6), .c (.int .i64 n9)]⟩ : Sx))).bind fun r10 =>
  (Rz.toU r10).bind fun u11 =>
  (U.asI .i64 u11).bind fun n12 =>
  some (.val (.c (.int .i64 n12))) := by
  unfold y78 yrunM; rw [yrun_eq]; kernel_rfl
-- slices.ContainsFunc[[]int,int]
theorem y79_eq (M : YM) (s f : U) : y79 M s f =
  (y82 M s f).bind fun r1 =>
  (Rz.toU r1).bind fun u2 =>
  (U.asI .i64 u2).bind fun n3 =>
  some (.val (.c (.bool (decide (0 ≤ n3))))) := by
  unfold y79 yrunM; rw [yrun_eq]; kernel_rfl
-- slices.IndexFunc[[]int,int]
theorem y82_eq (M : YM) (s f : U) : y82 M s f =
  (U.len s).bind fun k1 =>
  y82_1 M s f ((k1 : Nat) : Int) 0 := by
  unfold y82 yrunM; rw [yrun_eq]; kernel_rfl
theorem y82_1_eq (M : YM) (s f : U) (x7 x8 : Int) : y82_1 M s f x7 x8 =
  (if (decide (x8 < x7)) = true then
  (U.idx 1 s x8).bind fun v1 =>
  (U.cell v1 0).bind fun c2 =>
  (U.asI .i64 c2).bind fun n3 =>
  (U.asF f).bind fun g4 =>
  (ycall M g4.1 (g4.2.1 ++ [.c (.int .i64 n3)] ++ g4.2.2)).bind fun r5 =>
  (Rz.toU r5).bind fun u6 =>
  (U.asB u6).bind fun b7 =>
  (if b7 = true then
  some (.val (.c (.int .i64 x8)))
  else
  y82_1 M s f x7 (IntKind.wrap .i64 (x8 + 1)))
  else
  some (.val (.c (.int .i64 (-1))))) := by
  unfold y82_1 yrunM; rw [yrun_eq]; kernel_rfl
-- stutter/stutterbase.FirstInts
theorem y88_eq (M : YM) (a b : U) : y88 M a b =
  y88_1 M a b 0 := by
  unfold y88 yrunM; rw [yrun_eq]; kernel_rfl
theorem y88_1_eq (M : YM) (a b : U) (i : Int) : y88_1 M a b i =
  (U.len a).bind fun k1 =>
  (if (decide (i < ((k1 : Nat) : Int))) = true then
  (U.len b).bind fun k2 =>
  some (decide (i < ((k2 : Nat) : Int)))
  else
  some (decide (i < ((k1 : Nat) : Int)))).bind fun q3 =>
  (if q3 = true then
  (U.idx 1 a i).bind fun v4 =>
  (U.idx 1 b i).bind fun v5 =>
  (U.cell v4 0).bind fun c6 =>
  (U.asI .i64 c6).bind fun n7 =>
  (U.cell v5 0).bind fun c8 =>
  (U.asI .i64 c8).bind fun n9 =>
  (if (!decide (n7 = n9)) = true then
  (U.idx 1 a i).bind fun v10 =>
  (U.idx 1 b i).bind fun v11 =>
  (U.cell v10 0).bind fun c12 =>
  (U.asI .i64 c12).bind fun n13 =>
  (U.cell v11 0).bind fun c14 =>
  (U.asI .i64 c14).bind fun n15 =>
  (y107 M (decide (n13 < n15))).bind fun r16 =>
  (Rz.toU r16).bind fun u17 =>
  (U.asI .i64 u17).bind fun n18 =>
  some (.val (.c (.int .i64 (IntKind.wrap .i64 (1 - (IntKind.wrap .i64 (2 * n18)))))))
  else
  y88_1 M a b (IntKind.wrap .i64 (i + 1)))
  else
  (U.len a).bind fun k19 =>
  (U.len b).bind fun k20 =>
  (y107 M (decide (((k20 : Nat) : Int) < ((k19 : Nat) : Int)))).bind fun r21 =>
  (Rz.toU r21).bind fun u22 =>
  (U.asI .i64 u22).bind fun n23 =>
  (U.len a).bind fun k24 =>
  (U.len b).bind fun k25 =>
  (y107 M (decide (((k24 : Nat) : Int) < ((k25 : Nat) : Int)))).bind fun r26 =>
  (Rz.toU r26).bind fun u27 =>
  (U.asI .i64 u27).bind fun n28 =>
  some (.val (.c (.int .i64 (IntKind.wrap .i64 (n23 - n28)))))) := by
  unfold y88_1 yrunM; rw [yrun_eq]; kernel_rfl
-- stutter/stutterbase.edgeInts
theorem y89_eq (M : YM) (x_0 x_1 x_2 : Int) : y89 M x_0 x_1 x_2 =
  (if scals ([.c (.int .i64 x_0), .c (.int .i64 x_1), .c (.int .i64 x_2)]) = true then
  some (.sl (⟨true, 1, [.c (.int .i64 x_0), .c (.int .i64 x_1), .c (.int .i64 x_2)]⟩ : Sx))
  else
  none) := by
  unfold y89 yrunM; rw [yrun_eq]; kernel_rfl
-- (*stutter/reduce.graph).meets
theorem y93_eq (M : YM) (g : U) (s a u b : Int) : y93 M g s a u b =
  (U.asR g).bind fun a1 =>
  (U.cell a1.1 (a1.2 + 4)).bind fun c2 =>
  (U.idx 12 c2 s).bind fun v3 =>
  (if 0 ≤ a ∧ a < ((12 : Nat) : Int) then
  (U.cell v3 (0 + a.toNat * 1)).bind fun c4 =>
  (U.len c4).bind fun k5 =>
  y93_1 M g u b c4 ((k5 : Nat) : Int) 0
  else
  none) := by
  unfold y93 yrunM; rw [yrun_eq]; kernel_rfl
theorem y93_1_eq (M : YM) (g : U) (u b : Int) (x21 : U) (x22 x23 : Int) : y93_1 M g u b x21 x22 x23 =
  (if (decide (x23 < x22)) = true then
  (U.idx 1 x21 x23).bind fun v1 =>
  (U.cell v1 0).bind fun c2 =>
  (U.asI .i64 c2).bind fun n3 =>
  (U.asR g).bind fun a4 =>
  (U.cell a4.1 (a4.2 + 2)).bind fun c5 =>
  (U.idx 3 c5 n3).bind fun v6 =>
  (U.cell v6 1).bind fun c7 =>
  (U.asI .i64 c7).bind fun n8 =>
  (y108 M g u n8 b).bind fun r9 =>
  (Rz.toU r9).bind fun u10 =>
  (U.asB u10).bind fun b11 =>
  (if b11 = true then
  some (.val (.c (.bool true)))
  else
  y93_1 M g u b x21 x22 (IntKind.wrap .i64 (x23 + 1)))
  else
  some (.val (.c (.bool false)))) := by
  unfold y93_1 yrunM; rw [yrun_eq]; kernel_rfl
-- (*stutter/reduce.graph).swaps
theorem y94_eq (M : YM) (g : U) (s a b : Int) : y94 M g s a b =
  (U.one g).bind fun u1 =>
  (U.asR u1).bind fun a2 =>
  (U.cell a2.1 (a2.2 + 2)).bind fun c3 =>
  (U.idx 3 c3 a).bind fun v4 =>
  (U.struct v4 0 ks2).bind fun f5 =>
  (U.asR u1).bind fun a6 =>
  (U.cell a6.1 (a6.2 + 2)).bind fun c7 =>
  (U.idx 3 c7 b).bind fun v8 =>
  (U.struct v8 0 ks2).bind fun f9 =>
  (U.asR u1).bind fun a10 =>
  (U.cell a10.1 (a10.2 + 4)).bind fun c11 =>
  (U.idx 12 c11 s).bind fun v12 =>
  (if 0 ≤ ((f9 2).i) ∧ ((f9 2).i) < ((12 : Nat) : Int) then
  (U.cell v12 (0 + ((f9 2).i).toNat * 1)).bind fun c13 =>
  (y79 M c13 (.fn 109 [] [.ref (.st [u1]) 0, .ref (.st [.c (.int .i64 ((f9 0).i)), .c (.int .i64 ((f9 1).i)), .c (.int .i64 ((f9 2).i))]) 0, .ref (.st [.c (.int .i64 ((f5 0).i)), .c (.int .i64 ((f5 1).i)), .c (.int .i64 ((f5 2).i))]) 0])).bind fun r14 =>
  (Rz.toU r14).bind fun u15 =>
  (U.asB u15).bind fun b16 =>
  some (.val (.c (.bool b16)))
  else
  none) := by
  unfold y94 yrunM; rw [yrun_eq]; kernel_rfl
-- slices.MinFunc[[]stutter/api.ReduceClash,stutter/api.ReduceClash]
theorem y95_eq (M : YM) (x cmp : U) : y95 M x cmp =
  (U.len x).bind fun k1 =>
  (if (decide (((k1 : Nat) : Int) < 1)) = true then
  none
  else
  y95_1 M x cmp 0 0 0 0) := by
  unfold y95 yrunM; rw [yrun_eq]; kernel_rfl
theorem y95_1_eq (M : YM) (x cmp : U) (x4_0 x4_1 x4_2 x4_3 : Int) : y95_1 M x cmp x4_0 x4_1 x4_2 x4_3 =
  (U.idx 4 x 0).bind fun v1 =>
  (U.struct v1 0 ks0).bind fun f2 =>
  y95_2 M x cmp x4_0 x4_1 x4_2 x4_3 ((f2 0).i) ((f2 1).i) ((f2 2).i) ((f2 3).i) 1 := by
  unfold y95_1 yrunM; rw [yrun_eq]; kernel_rfl
theorem y95_2_eq (M : YM) (x cmp : U) (x4_0 x4_1 x4_2 x4_3 m_0 m_1 m_2 m_3 i : Int) : y95_2 M x cmp x4_0 x4_1 x4_2 x4_3 m_0 m_1 m_2 m_3 i =
  (U.len x).bind fun k1 =>
  (if (decide (i < ((k1 : Nat) : Int))) = true then
  (U.idx 4 x i).bind fun v2 =>
  (U.struct v2 0 ks0).bind fun f3 =>
  (U.asF cmp).bind fun g4 =>
  (ycall M g4.1 (g4.2.1 ++ [.st [.c (.int .i64 ((f3 0).i)), .c (.int .i64 ((f3 1).i)), .c (.int .i64 ((f3 2).i)), .c (.int .i64 ((f3 3).i))], .st [.c (.int .i64 m_0), .c (.int .i64 m_1), .c (.int .i64 m_2), .c (.int .i64 m_3)]] ++ g4.2.2)).bind fun r5 =>
  (Rz.toU r5).bind fun u6 =>
  (U.asI .i64 u6).bind fun n7 =>
  (if (decide (n7 < 0)) = true then
  (U.idx 4 x i).bind fun v8 =>
  (U.struct v8 0 ks0).bind fun f9 =>
  y95_3 M x cmp x4_0 x4_1 x4_2 x4_3 ((f9 0).i) ((f9 1).i) ((f9 2).i) ((f9 3).i) i
  else
  y95_3 M x cmp x4_0 x4_1 x4_2 x4_3 m_0 m_1 m_2 m_3 i)
  else
  some (.val (.st [.c (.int .i64 m_0), .c (.int .i64 m_1), .c (.int .i64 m_2), .c (.int .i64 m_3)]))) := by
  unfold y95_2 yrunM; rw [yrun_eq]; kernel_rfl
theorem y95_3_eq (M : YM) (x cmp : U) (x4_0 x4_1 x4_2 x4_3 m_0 m_1 m_2 m_3 i : Int) : y95_3 M x cmp x4_0 x4_1 x4_2 x4_3 m_0 m_1 m_2 m_3 i =
  y95_2 M x cmp x4_0 x4_1 x4_2 x4_3 m_0 m_1 m_2 m_3 (IntKind.wrap .i64 (i + 1)) := by
  unfold y95_3 yrunM; rw [yrun_eq]; kernel_rfl
-- (*stutter/reduce.graph).clash$1
theorem y96_eq (M : YM) (x_0 x_1 x_2 x_3 y_0 y_1 y_2 y_3 : Int) : y96 M x_0 x_1 x_2 x_3 y_0 y_1 y_2 y_3 =
  (y98 M x_2 y_2).bind fun r1 =>
  (Rz.toU r1).bind fun u2 =>
  (U.asI .i64 u2).bind fun n3 =>
  (y98 M x_3 y_3).bind fun r4 =>
  (Rz.toU r4).bind fun u5 =>
  (U.asI .i64 u5).bind fun n6 =>
  (y97 M (Sx.fz (⟨true, 1, [.c (.int .i64 n3), .c (.int .i64 n6)]⟩ : Sx))).bind fun r7 =>
  (Rz.toU r7).bind fun u8 =>
  (U.asI .i64 u8).bind fun n9 =>
  some (.val (.c (.int .i64 n9))) := by
  unfold y96 yrunM; rw [yrun_eq]; kernel_rfl
-- cmp.Or[int]
theorem y97_eq (M : YM) (vals : U) : y97 M vals =
  (U.len vals).bind fun k1 =>
  y97_1 M 0 vals ((k1 : Nat) : Int) 0 := by
  unfold y97 yrunM; rw [yrun_eq]; kernel_rfl
theorem y97_1_eq (M : YM) (zero : Int) (x6 : U) (x7 x8 : Int) : y97_1 M zero x6 x7 x8 =
  (if (decide (x8 < x7)) = true then
  (U.idx 1 x6 x8).bind fun v1 =>
  (U.cell v1 0).bind fun c2 =>
  (U.asI .i64 c2).bind fun n3 =>
  (if (!decide (n3 = zero)) = true then
  some (.val (.c (.int .i64 n3)))
  else
  y97_1 M zero x6 x7 (IntKind.wrap .i64 (x8 + 1)))
  else
  some (.val (.c (.int .i64 zero)))) := by
  unfold y97_1 yrunM; rw [yrun_eq]; kernel_rfl
-- cmp.Compare[int]
theorem y98_eq (M : YM) (x y : Int) : y98 M x y =
  (y110 M x).bind fun r1 =>
  (Rz.toU r1).bind fun u2 =>
  (U.asB u2).bind fun b3 =>
  (y110 M y).bind fun r4 =>
  (Rz.toU r4).bind fun u5 =>
  (U.asB u5).bind fun b6 =>
  (if b3 = true then
  (if b6 = true then
  some (.val (.c (.int .i64 0)))
  else
  some (.val (.c (.int .i64 (-1)))))
  else
  (if b6 = true then
  some (.val (.c (.int .i64 1)))
  else
  (if (decide (x < y)) = true then
  some (.val (.c (.int .i64 (-1))))
  else
  (if (decide (y < x)) = true then
  some (.val (.c (.int .i64 1)))
  else
  some (.val (.c (.int .i64 0))))))) := by
  unfold y98 yrunM; rw [yrun_eq]; kernel_rfl
-- stutter/stutterref19.hasStep
theorem y99_eq (M : YM) (g_0 : Int) (g_1 g_2 : U) (vfrom a to : Int) : y99 M g_0 g_1 g_2 vfrom a to =
  (y71 M g_0 g_1 g_2 vfrom a).bind fun r1 =>
  (Rz.asSl r1).bind fun s2 =>
  y99_1 M to g_0 g_1 g_2 0 s2 := by
  unfold y99 yrunM; rw [yrun_eq]; kernel_rfl
theorem y99_1_eq (M : YM) (to g_0 : Int) (g_1 g_2 : U) (i : Int) (l : Sx) : y99_1 M to g_0 g_1 g_2 i l =
  (if (decide (i < (((l.es).length : Nat) : Int))) = true then
  (if Sx.has l 1 i = true then
  ((l.es)[i.toNat]?).bind fun v1 =>
  (U.cell v1 0).bind fun c2 =>
  (U.asI .i64 c2).bind fun n3 =>
  (U.idx 3 g_2 n3).bind fun v4 =>
  (U.cell v4 1).bind fun c5 =>
  (U.asI .i64 c5).bind fun n6 =>
  (if (decide (n6 = to)) = true then
  some (.val (.c (.bool true)))
  else
  y99_1 M to g_0 g_1 g_2 (IntKind.wrap .i64 (i + 1)) l)
  else
  none)
  else
  some (.val (.c (.bool false)))) := by
  unfold y99_1 yrunM; rw [yrun_eq]; kernel_rfl
-- stutter/stutterbase.One
theorem y107_eq (M : YM) (is : Bool) : y107 M is =
  (if is = true then
  some (.val (.c (.int .i64 1)))
  else
  some (.val (.c (.int .i64 0)))) := by
  unfold y107 yrunM; rw [yrun_eq]; kernel_rfl
-- (*stutter/reduce.graph).has
theorem y108_eq (M : YM) (g : U) (vfrom to action : Int) : y108 M g vfrom to action =
  (U.asR g).bind fun a1 =>
  (U.cell a1.1 (a1.2 + 2)).bind fun c2 =>
  (y111 M c2 vfrom to action (.fn 78 [] [])).bind fun r3 =>
  (Rz.asTup r3).bind fun t4 =>
  (t4[0]?).bind fun u5 =>
  (U.asI .i64 u5).bind fun n6 =>
  (t4[1]?).bind fun u7 =>
  (U.asB u7).bind fun b8 =>
  some (.val (.c (.bool b8))) := by
  unfold y108 yrunM; rw [yrun_eq]; kernel_rfl
-- (*stutter/reduce.graph).swaps$1
theorem y109_eq (M : YM) (i : Int) (x1 x2 x3 : U) : y109 M i x1 x2 x3 =
  (U.asR x2).bind fun a1 =>
  (U.asR x3).bind fun a2 =>
  (U.asR x1).bind fun a3 =>
  (U.cell a3.1 a3.2).bind fun c4 =>
  (U.asR x1).bind fun a5 =>
  (U.cell a5.1 a5.2).bind fun c6 =>
  (U.asR c6).bind fun a7 =>
  (U.cell a7.1 (a7.2 + 2)).bind fun c8 =>
  (U.idx 3 c8 i).bind fun v9 =>
  (U.cell v9 1).bind fun c10 =>
  (U.asI .i64 c10).bind fun n11 =>
  (U.cell a1.1 (a1.2 + 1)).bind fun c12 =>
  (U.asI .i64 c12).bind fun n13 =>
  (U.cell a2.1 (a2.2 + 2)).bind fun c14 =>
  (U.asI .i64 c14).bind fun n15 =>
  (y108 M c4 n11 n13 n15).bind fun r16 =>
  (Rz.toU r16).bind fun u17 =>
  (U.asB u17).bind fun b18 =>
  some (.val (.c (.bool b18))) := by
  unfold y109 yrunM; rw [yrun_eq]; kernel_rfl
-- cmp.isNaN[int]
theorem y110_eq (M : YM) (x : Int) : y110 M x =
  some (.val (.c (.bool (!decide (x = x))))) := by
  unfold y110 yrunM; rw [yrun_eq]; kernel_rfl
-- slices.BinarySearchFunc[[]stutter/api.Edge,stutter/api.Edge,stutter/api.Edge]
theorem y111_eq (M : YM) (x : U) (target_0 target_1 target_2 : Int) (cmp : U) : y111 M x target_0 target_1 target_2 cmp =
  (U.len x).bind fun k1 =>
  y111_1 M x cmp target_0 target_1 target_2 ((k1 : Nat) : Int) 0 ((k1 : Nat) : Int) := by
  unfold y111 yrunM; rw [yrun_eq]; kernel_rfl
theorem y111_1_eq (M : YM) (x cmp : U) (target_0 target_1 target_2 n i j : Int) : y111_1 M x cmp target_0 target_1 target_2 n i j =
  (if (decide (i < j)) = true then
  (U.idx 3 x (IntKind.wrap .i64 (shI .shr .u64 (IntKind.wrap .u64 (IntKind.wrap .i64 (i + j))) 1))).bind fun v1 =>
  (U.struct v1 0 ks2).bind fun f2 =>
  (U.asF cmp).bind fun g3 =>
  (ycall M g3.1 (g3.2.1 ++ [.st [.c (.int .i64 ((f2 0).i)), .c (.int .i64 ((f2 1).i)), .c (.int .i64 ((f2 2).i))], .st [.c (.int .i64 target_0), .c (.int .i64 target_1), .c (.int .i64 target_2)]] ++ g3.2.2)).bind fun r4 =>
  (Rz.toU r4).bind fun u5 =>
  (U.asI .i64 u5).bind fun n6 =>
  (if (decide (n6 < 0)) = true then
  y111_2 M x cmp target_0 target_1 target_2 n (IntKind.wrap .i64 ((IntKind.wrap .i64 (shI .shr .u64 (IntKind.wrap .u64 (IntKind.wrap .i64 (i + j))) 1)) + 1)) j
  else
  y111_2 M x cmp target_0 target_1 target_2 n i (IntKind.wrap .i64 (shI .shr .u64 (IntKind.wrap .u64 (IntKind.wrap .i64 (i + j))) 1)))
  else
  (if (decide (i < n)) = true then
  (U.idx 3 x i).bind fun v7 =>
  (U.struct v7 0 ks2).bind fun f8 =>
  (U.asF cmp).bind fun g9 =>
  (ycall M g9.1 (g9.2.1 ++ [.st [.c (.int .i64 ((f8 0).i)), .c (.int .i64 ((f8 1).i)), .c (.int .i64 ((f8 2).i))], .st [.c (.int .i64 target_0), .c (.int .i64 target_1), .c (.int .i64 target_2)]] ++ g9.2.2)).bind fun r10 =>
  (Rz.toU r10).bind fun u11 =>
  (U.asI .i64 u11).bind fun n12 =>
  some (decide (n12 = 0))
  else
  some (decide (i < n))).bind fun q13 =>
  some (.tup [.c (.int .i64 i), .c (.bool q13)])) := by
  unfold y111_1 yrunM; rw [yrun_eq]; kernel_rfl
theorem y111_2_eq (M : YM) (x cmp : U) (target_0 target_1 target_2 n i j : Int) : y111_2 M x cmp target_0 target_1 target_2 n i j =
  y111_1 M x cmp target_0 target_1 target_2 n i j := by
  unfold y111_2 yrunM; rw [yrun_eq]; kernel_rfl
end Go.Proofs.Ythjjbkiejkhjfaa.R
