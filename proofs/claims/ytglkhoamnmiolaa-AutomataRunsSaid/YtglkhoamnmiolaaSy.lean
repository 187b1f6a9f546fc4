import Derived.Test.YtglkhoamnmiolaaRa
import Derived.Test.YtglkhoamnmiolaaE9
import Derived.KernelRfl
namespace Go.Proofs.Ytglkhoamnmiolaa.R
open Go Go.Proofs.Ytglkhoamnmiolaa.Vm
set_option linter.unusedVariables false
set_option linter.unusedSimpArgs false
abbrev ks0 : List K0 := [(.int .i64), (.int .i64), (.int .i64), (.int .i64)]
abbrev ks1 : List K0 := [.c, .c]
abbrev ks2 : List K0 := [(.int .i64), .c, .c, .c]
abbrev ks3 : List K0 := [(.int .i64), .c, .c, .c, .c, (.int .i64), .c, .c, .c]
structure YM where
  ext : YCallT
def mdt : List (Nat × List RM) := [(3, [.sc]), (4, [.sc]), (5, [.sc]), (6, [.sc]), (7, [.sc]), (8, [.sc]), (9, [.sc]), (10, [.va, .va]), (11, [.va]), (12, [.sc]), (13, [.sc]), (14, [.sc]), (15, [.sc]), (16, [.va]), (17, [.sc]), (18, [.sc, .sc]), (19, [.va]), (20, [.va, .va]), (21, [.sc]), (22, [.sc, .sc]), (23, [.sc, .sc]), (24, [.va]), (25, [.sc, .sc]), (26, [.va, .va, .va]), (27, [.sc, .sc]), (28, [.sc]), (29, [.va, .va]), (30, [.sc]), (31, [.sc]), (32, [.va, .va]), (33, [.va, .va]), (34, [.sc]), (35, [.va]), (36, [.sc]), (37, [.va, .va]), (38, [.sls]), (39, [.sl]), (40, [.va]), (41, [.sc]), (42, [.sc]), (43, [.sc]), (44, [.va]), (45, [.sc]), (46, [.va]), (47, [.va, .va]), (48, [.sc]), (49, [.sc]), (50, [.sc]), (51, [.sc]), (52, [.sc]), (53, [.sc]), (54, [.sls]), (55, [.sc]), (56, [.sc]), (57, [.sc]), (58, [.sc]), (59, [.sc]), (60, [.sc]), (61, [.sc]), (62, [.va]), (63, [.sc, .sc]), (64, [.va, .va]), (65, [.sc]), (66, [.sls]), (67, [.sc]), (68, [.sc]), (69, [.sc]), (70, [.va, .va]), (71, [.sc]), (72, [.va, .va]), (73, [.va, .va, .va]), (74, [.sc]), (75, [.sc]), (76, [.sc]), (77, [.va, .va]), (78, [.va]), (79, [.sls]), (80, [.sls]), (81, [.sc]), (82, [.va]), (83, [.sls]), (84, [.sc]), (85, [.sls]), (86, [.sc]), (87, [.sc]), (88, [.sls]), (89, [.sls]), (90, [.sc]), (91, [.sc]), (92, [.sls]), (93, [.sls]), (94, []), (95, [.va]), (96, [.sls]), (97, [.sc]), (98, [.sc]), (99, [.va, .va]), (100, [.sc]), (101, [.sc]), (102, [.sc]), (103, [.sc]), (104, [.sc]), (105, [.va, .va]), (106, [.sc]), (107, [.sc]), (108, [.sc]), (109, []), (110, [.sc, .sc]), (111, [.sls]), (112, []), (113, [.va]), (114, [.sc, .sc]), (115, [.sc, .sc]), (116, [.sls]), (117, [.sc])]
def md (f : FuncId) : List RM := (mdt.lookup f).getD []
def youts : List Nat := [8, 16, 33, 37, 40, 44, 46, 64, 72, 73, 82, 94, 95, 99, 109, 112]
def yprog (f : FuncId) : Option RFunc := if youts.contains f then none else prog f
def yz (n : Nat) (l : List (Nat × Y)) : List Y := (List.range n).map fun p => (l.lookup p).getD .poison
noncomputable def yrunM (M : YM) : YRunT := Vm.yrun M.ext yprog md
noncomputable def ycall (M : YM) (f : FuncId) (us : List U) : YRs := yrunM M f 0 (us.map .val) []
-- stutter/stutterlaw14.AutomataRuns
noncomputable def y5 (M : YM) (a_0 : Int) (a_1 : U) (a_2 : U) (a_3 : U) (w_0 : U) (w_1 : U) (run_0 : U) (run_1 : U) : YRs := yrunM M 5 0 ([.val (.st [.c (.int .i64 a_0), a_1, a_2, a_3]), .val (.st [w_0, w_1]), .val (.st [run_0, run_1])]) []
-- stutter/stutterlaw14.few
noncomputable def y9 (M : YM) (a_0 : Int) (a_1 : U) (a_2 : U) (a_3 : U) : YRs := yrunM M 9 0 ([.val (.st [.c (.int .i64 a_0), a_1, a_2, a_3])]) []
noncomputable def y9_1 (M : YM) (a_0 : Int) (a_1 : U) (a_2 : U) (a_3 : U) (k : Int) : YRs := yrunM M 9 1 (yz 44 [(1, .loc [.u (.c (.int .i64 a_0)), .u a_1, .u a_2, .u a_3]), (3, .val (.c (.int .i64 k)))]) []
-- stutter/stutterref14.Own
noncomputable def y11 (M : YM) (a_0 : Int) (a_1 : U) (a_2 : U) (a_3 : U) : YRs := yrunM M 11 0 ([.val (.st [.c (.int .i64 a_0), a_1, a_2, a_3])]) []
-- stutter/stutterref14.Err
noncomputable def y12 (M : YM) (a_0 : Int) (a_1 : U) (a_2 : U) (a_3 : U) : YRs := yrunM M 12 0 ([.val (.st [.c (.int .i64 a_0), a_1, a_2, a_3])]) []
-- stutter/stutterref13.WordErr
noncomputable def y15 (M : YM) (w_0 : U) (w_1 : U) : YRs := yrunM M 15 0 ([.val (.st [w_0, w_1])]) []
noncomputable def y15_1 (M : YM) (w_0 : U) (w_1 : U) (i : Int) : YRs := yrunM M 15 1 (yz 32 [(1, .loc [.u w_0, .u w_1]), (3, .val (.c (.int .i64 i)))]) []
-- stutter/stutterlaw13.Short
noncomputable def y17 (M : YM) (w_0 : U) (w_1 : U) : YRs := yrunM M 17 0 ([.val (.st [w_0, w_1])]) []
-- stutter/stutterref13.OwnWord
noncomputable def y19 (M : YM) (w_0 : U) (w_1 : U) : YRs := yrunM M 19 0 ([.val (.st [w_0, w_1])]) []
-- stutter/stutterref14.CheckRun
noncomputable def y22 (M : YM) (a_0 : Int) (a_1 : U) (a_2 : U) (a_3 : U) (w_0 : U) (w_1 : U) (run_0 : U) (run_1 : U) : YRs := yrunM M 22 0 ([.val (.st [.c (.int .i64 a_0), a_1, a_2, a_3]), .val (.st [w_0, w_1]), .val (.st [run_0, run_1])]) []
noncomputable def y22_1 (M : YM) (a_0 : Int) (a_1 : U) (a_2 : U) (a_3 : U) (w_0 : U) (w_1 : U) (run_0 : U) (run_1 : U) (n : Int) (i : Int) : YRs := yrunM M 22 1 (yz 142 [(3, .loc [.u (.c (.int .i64 a_0)), .u a_1, .u a_2, .u a_3]), (4, .loc [.u w_0, .u w_1]), (5, .loc [.u run_0, .u run_1]), (10, .val (.c (.int .i64 n))), (11, .val (.c (.int .i64 i)))]) []
noncomputable def y22_2 (M : YM) (a_0 : Int) (a_1 : U) (a_2 : U) (a_3 : U) (w_0 : U) (w_1 : U) (run_0 : U) (run_1 : U) (n : Int) (i : Int) : YRs := yrunM M 22 2 (yz 142 [(3, .loc [.u (.c (.int .i64 a_0)), .u a_1, .u a_2, .u a_3]), (4, .loc [.u w_0, .u w_1]), (5, .loc [.u run_0, .u run_1]), (10, .val (.c (.int .i64 n))), (12, .val (.c (.int .i64 i)))]) []
noncomputable def y22_3 (M : YM) (a_0 : Int) (a_1 : U) (a_2 : U) (a_3 : U) (run_0 : U) (run_1 : U) (k : Int) : YRs := yrunM M 22 3 (yz 142 [(3, .loc [.u (.c (.int .i64 a_0)), .u a_1, .u a_2, .u a_3]), (5, .loc [.u run_0, .u run_1]), (13, .val (.c (.int .i64 k)))]) []
noncomputable def y22_4 (M : YM) (a_0 : Int) (a_1 : U) (a_2 : U) (a_3 : U) (run_0 : U) (run_1 : U) (k : Int) (meets : Bool) (i : Int) : YRs := yrunM M 22 4 (yz 142 [(3, .loc [.u (.c (.int .i64 a_0)), .u a_1, .u a_2, .u a_3]), (5, .loc [.u run_0, .u run_1]), (13, .val (.c (.int .i64 k))), (14, .val (.c (.bool meets))), (15, .val (.c (.int .i64 i)))]) []
-- stutter/automata.CheckRun
noncomputable def y23 (M : YM) (a_0 : Int) (a_1 : U) (a_2 : U) (a_3 : U) (w_0 : U) (w_1 : U) (run_0 : U) (run_1 : U) : YRs := yrunM M 23 0 ([.val (.st [.c (.int .i64 a_0), a_1, a_2, a_3]), .val (.st [w_0, w_1]), .val (.st [run_0, run_1])]) []
noncomputable def y23_1 (M : YM) (a_0 : Int) (a_1 : U) (a_2 : U) (a_3 : U) (w_0 : U) (w_1 : U) (run_0 : U) (run_1 : U) (x80 : Int) (x81 : Int) (all : Sx) : YRs := yrunM M 23 1 (yz 147 [(3, .loc [.u (.c (.int .i64 a_0)), .u a_1, .u a_2, .u a_3]), (4, .loc [.u w_0, .u w_1]), (5, .loc [.u run_0, .u run_1]), (11, .h 10000), (79, .h 10000), (80, .val (.c (.int .i64 x80))), (81, .val (.c (.int .i64 x81)))]) [.sl all]
noncomputable def y23_2 (M : YM) (a_0 : Int) (a_1 : U) (a_2 : U) (a_3 : U) (w_0 : U) (w_1 : U) (run_0 : U) (run_1 : U) (x102 : Int) (x103 : Int) (all : Sx) : YRs := yrunM M 23 2 (yz 147 [(3, .loc [.u (.c (.int .i64 a_0)), .u a_1, .u a_2, .u a_3]), (4, .loc [.u w_0, .u w_1]), (5, .loc [.u run_0, .u run_1]), (11, .h 10000), (101, .h 10000), (102, .val (.c (.int .i64 x102))), (103, .val (.c (.int .i64 x103)))]) [.sl all]
noncomputable def y23_3 (M : YM) (a_0 : Int) (a_1 : U) (a_2 : U) (a_3 : U) (w_0 : U) (w_1 : U) (run_0 : U) (run_1 : U) (i : Int) (x102 : Int) (x103 : Int) (all : Sx) (s : Int) (to : Int) : YRs := yrunM M 23 3 (yz 147 [(3, .loc [.u (.c (.int .i64 a_0)), .u a_1, .u a_2, .u a_3]), (4, .loc [.u w_0, .u w_1]), (5, .loc [.u run_0, .u run_1]), (11, .h 10000), (14, .val (.c (.int .i64 i))), (15, .h 10001), (16, .h 10002), (101, .h 10000), (102, .val (.c (.int .i64 x102))), (103, .val (.c (.int .i64 x103)))]) [.sl all, .ob [.u (.c (.int .i64 s))], .ob [.u (.c (.int .i64 to))]]
noncomputable def y23_4 (M : YM) (run_0 : U) (run_1 : U) (x133 : U) (x134 : Int) (x135 : Int) : YRs := yrunM M 23 4 (yz 147 [(5, .loc [.u run_0, .u run_1]), (133, .val x133), (134, .val (.c (.int .i64 x134))), (135, .val (.c (.int .i64 x135)))]) []
-- stutter/stutterref13.OwnLasso
noncomputable def y24 (M : YM) (l_0 : U) (l_1 : U) : YRs := yrunM M 24 0 ([.val (.st [l_0, l_1])]) []
-- stutter/automata.CheckAutomaton
noncomputable def y25 (M : YM) (a_0 : Int) (a_1 : U) (a_2 : U) (a_3 : U) : YRs := yrunM M 25 0 ([.val (.st [.c (.int .i64 a_0), a_1, a_2, a_3])]) []
noncomputable def y25_1 (M : YM) (a_0 : Int) (a_1 : U) (a_2 : U) (a_3 : U) (x49 : U) (x50 : Int) (x51 : Int) : YRs := yrunM M 25 1 (yz 106 [(1, .loc [.u (.c (.int .i64 a_0)), .u a_1, .u a_2, .u a_3]), (49, .val x49), (50, .val (.c (.int .i64 x50))), (51, .val (.c (.int .i64 x51)))]) []
noncomputable def y25_2 (M : YM) (a_0 : Int) (a_1 : U) (a_2 : U) (a_3 : U) (x87 : U) (x88 : Int) (x89 : Int) : YRs := yrunM M 25 2 (yz 106 [(1, .loc [.u (.c (.int .i64 a_0)), .u a_1, .u a_2, .u a_3]), (87, .val x87), (88, .val (.c (.int .i64 x88))), (89, .val (.c (.int .i64 x89)))]) []
-- stutter/stutterref14.Check
noncomputable def y27 (M : YM) (a_0 : Int) (a_1 : U) (a_2 : U) (a_3 : U) : YRs := yrunM M 27 0 ([.val (.st [.c (.int .i64 a_0), a_1, a_2, a_3])]) []
noncomputable def y27_1 (M : YM) (a_0 : Int) (a_1 : U) (a_2 : U) (a_3 : U) (i : Int) : YRs := yrunM M 27 1 (yz 111 [(1, .loc [.u (.c (.int .i64 a_0)), .u a_1, .u a_2, .u a_3]), (4, .val (.c (.int .i64 i)))]) []
noncomputable def y27_2 (M : YM) (a_0 : Int) (a_1 : U) (a_2 : U) (a_3 : U) (i : Int) : YRs := yrunM M 27 2 (yz 111 [(1, .loc [.u (.c (.int .i64 a_0)), .u a_1, .u a_2, .u a_3]), (6, .val (.c (.int .i64 i)))]) []
noncomputable def y27_3 (M : YM) (a_0 : Int) (a_1 : U) (a_2 : U) (a_3 : U) (i : Int) : YRs := yrunM M 27 3 (yz 111 [(1, .loc [.u (.c (.int .i64 a_0)), .u a_1, .u a_2, .u a_3]), (8, .val (.c (.int .i64 i)))]) []
noncomputable def y27_4 (M : YM) (a_0 : Int) (a_1 : U) (a_2 : U) (a_3 : U) (i : Int) (k : Int) : YRs := yrunM M 27 4 (yz 111 [(1, .loc [.u (.c (.int .i64 a_0)), .u a_1, .u a_2, .u a_3]), (8, .val (.c (.int .i64 i))), (9, .val (.c (.int .i64 k)))]) []
-- stutter/automata.automatonErr
noncomputable def y36 (M : YM) (a_0 : Int) (a_1 : U) (a_2 : U) (a_3 : U) : YRs := yrunM M 36 0 ([.val (.st [.c (.int .i64 a_0), a_1, a_2, a_3])]) []
-- stutter/stutterbase.OwnInts
noncomputable def y38 (M : YM) (l : U) : YRs := yrunM M 38 0 ([.val l]) []
-- stutter/stutterbase.OwnLists
noncomputable def y39 (M : YM) (l : U) : YRs := yrunM M 39 0 ([.val l]) []
noncomputable def y39_1 (M : YM) (l : U) (i : Int) (out : Sx) : YRs := yrunM M 39 1 (yz 20 [(0, .val l), (3, .h 10000), (4, .val (.c (.int .i64 i)))]) [.sl out]
-- stutter/stutterbase.Between
noncomputable def y41 (M : YM) (n : Int) (low : Int) (high : Int) : YRs := yrunM M 41 0 ([.val (.c (.int .i64 n)), .val (.c (.int .i64 low)), .val (.c (.int .i64 high))]) []
-- stutter/stutterref13.Letter
noncomputable def y42 (M : YM) (w_0 : U) (w_1 : U) (vat : Int) : YRs := yrunM M 42 0 ([.val (.st [w_0, w_1]), .val (.c (.int .i64 vat))]) []
-- stutter/stutterref14.Reads
noncomputable def y43 (M : YM) (x_0 : Int) (x_1 : Int) (x_2 : Int) (x_3 : Int) (letter : Int) : YRs := yrunM M 43 0 ([.val (.st [.c (.int .i64 x_0), .c (.int .i64 x_1), .c (.int .i64 x_2), .c (.int .i64 x_3)]), .val (.c (.int .i64 letter))]) []
noncomputable def y43_1 (M : YM) (letter : Int) (x_0 : Int) (x_1 : Int) (x_2 : Int) (x_3 : Int) (i : Int) : YRs := yrunM M 43 1 (yz 31 [(1, .val (.c (.int .i64 letter))), (2, .loc [.u (.c (.int .i64 x_0)), .u (.c (.int .i64 x_1)), .u (.c (.int .i64 x_2)), .u (.c (.int .i64 x_3))]), (5, .val (.c (.int .i64 i)))]) []
-- stutter/automata.errs
noncomputable def y45 (M : YM) (a_0 : Int) (a_1 : U) (a_2 : U) (a_3 : U) (w_0 : U) (w_1 : U) : YRs := yrunM M 45 0 ([.val (.st [.c (.int .i64 a_0), a_1, a_2, a_3]), .val (.st [w_0, w_1])]) []
-- stutter/stutterref13.StateAt
noncomputable def y48 (M : YM) (l_0 : U) (l_1 : U) (vat : Int) : YRs := yrunM M 48 0 ([.val (.st [l_0, l_1]), .val (.c (.int .i64 vat))]) []
-- stutter/stutterbase.Holds
noncomputable def y49 (M : YM) (l : U) (n : Int) : YRs := yrunM M 49 0 ([.val l, .val (.c (.int .i64 n))]) []
noncomputable def y49_1 (M : YM) (l : U) (n : Int) (i : Int) : YRs := yrunM M 49 1 (yz 18 [(0, .val l), (1, .val (.c (.int .i64 n))), (5, .val (.c (.int .i64 i)))]) []
-- stutter/stutterref14.goes
noncomputable def y50 (M : YM) (a_0 : Int) (a_1 : U) (a_2 : U) (a_3 : U) (x_0 : Int) (x_1 : Int) (x_2 : Int) (x_3 : Int) (letter : Int) : YRs := yrunM M 50 0 ([.val (.st [.c (.int .i64 a_0), a_1, a_2, a_3]), .val (.st [.c (.int .i64 x_0), .c (.int .i64 x_1), .c (.int .i64 x_2), .c (.int .i64 x_3)]), .val (.c (.int .i64 letter))]) []
noncomputable def y50_1 (M : YM) (letter : Int) (a_0 : Int) (a_1 : U) (a_2 : U) (a_3 : U) (x_0 : Int) (x_1 : Int) (x_2 : Int) (x_3 : Int) (i : Int) : YRs := yrunM M 50 1 (yz 44 [(2, .val (.c (.int .i64 letter))), (3, .loc [.u (.c (.int .i64 a_0)), .u a_1, .u a_2, .u a_3]), (4, .loc [.u (.c (.int .i64 x_0)), .u (.c (.int .i64 x_1)), .u (.c (.int .i64 x_2)), .u (.c (.int .i64 x_3))]), (7, .val (.c (.int .i64 i)))]) []
-- stutter/stutterref13.After
noncomputable def y51 (M : YM) (l_0 : U) (l_1 : U) (vat : Int) : YRs := yrunM M 51 0 ([.val (.st [l_0, l_1]), .val (.c (.int .i64 vat))]) []
-- cmp.Or[stutter/api.Errno]
noncomputable def y52 (M : YM) (vals : U) : YRs := yrunM M 52 0 ([.val vals]) []
noncomputable def y52_1 (M : YM) (zero : Int) (x6 : U) (x7 : Int) (x8 : Int) : YRs := yrunM M 52 1 (yz 18 [(3, .val (.c (.int .i64 zero))), (6, .val x6), (7, .val (.c (.int .i64 x7))), (8, .val (.c (.int .i64 x8)))]) []
-- stutter/automata.wrong
noncomputable def y53 (M : YM) (is : Bool) (code : Int) : YRs := yrunM M 53 0 ([.val (.c (.bool is)), .val (.c (.int .i64 code))]) []
-- slices.Concat[[]int,int]
noncomputable def y54 (M : YM) (slices : U) : YRs := yrunM M 54 0 ([.val slices]) []
noncomputable def y54_1 (M : YM) (slices : U) (size : Int) (x9 : U) (x10 : Int) (x11 : Int) : YRs := yrunM M 54 1 (yz 36 [(0, .val slices), (3, .val (.c (.int .i64 size))), (9, .val x9), (10, .val (.c (.int .i64 x10))), (11, .val (.c (.int .i64 x11)))]) []
noncomputable def y54_2 (M : YM) (slices : U) (size : Int) (x9 : U) (x10 : Int) (x11 : Int) : YRs := yrunM M 54 2 (yz 36 [(0, .val slices), (3, .val (.c (.int .i64 size))), (9, .val x9), (10, .val (.c (.int .i64 x10))), (11, .val (.c (.int .i64 x11)))]) []
noncomputable def y54_3 (M : YM) (x25 : U) (x26 : Int) (x27 : Int) (newslice : Sx) : YRs := yrunM M 54 3 (yz 36 [(6, .h 10000), (25, .val x25), (26, .val (.c (.int .i64 x26))), (27, .val (.c (.int .i64 x27)))]) [.sl newslice]
-- stutter/automata.spans
noncomputable def y55 (M : YM) (n : Int) (vfrom : Int) (to : Int) : YRs := yrunM M 55 0 ([.val (.c (.int .i64 n)), .val (.c (.int .i64 vfrom)), .val (.c (.int .i64 to))]) []
-- slices.Contains[[]int,int]
noncomputable def y56 (M : YM) (s : U) (v : Int) : YRs := yrunM M 56 0 ([.val s, .val (.c (.int .i64 v))]) []
-- stutter/automata.letterAt
noncomputable def y57 (M : YM) (w_0 : U) (w_1 : U) (i : Int) : YRs := yrunM M 57 0 ([.val (.st [w_0, w_1]), .val (.c (.int .i64 i))]) []
-- slices.ContainsFunc[[]stutter/api.AutomatonEdge,stutter/api.AutomatonEdge]
noncomputable def y58 (M : YM) (s : U) (f : U) : YRs := yrunM M 58 0 ([.val s, .val f]) []
-- stutter/automata.CheckRun$1
noncomputable def y59 (M : YM) (x_0 : Int) (x_1 : Int) (x_2 : Int) (x_3 : Int) (x1 : U) (x2 : U) (x3 : U) : YRs := yrunM M 59 0 ([.val (.st [.c (.int .i64 x_0), .c (.int .i64 x_1), .c (.int .i64 x_2), .c (.int .i64 x_3)]), .val x1, .val x2, .val x3]) []
-- stutter/automata.reads
noncomputable def y60 (M : YM) (x_0 : Int) (x_1 : Int) (x_2 : Int) (x_3 : Int) (letter : Int) : YRs := yrunM M 60 0 ([.val (.st [.c (.int .i64 x_0), .c (.int .i64 x_1), .c (.int .i64 x_2), .c (.int .i64 x_3)]), .val (.c (.int .i64 letter))]) []
-- slices.ContainsFunc[[]int,int]
noncomputable def y61 (M : YM) (s : U) (f : U) : YRs := yrunM M 61 0 ([.val s, .val f]) []
-- stutter/automata.CheckRun$2
noncomputable def y62 (M : YM) (s : Int) (x1 : U) : YRs := yrunM M 62 0 ([.val (.c (.int .i64 s)), .val x1]) []
-- stutter/automata.statesErr
noncomputable def y63 (M : YM) (l : U) (states : Int) : YRs := yrunM M 63 0 ([.val l, .val (.c (.int .i64 states))]) []
noncomputable def y63_1 (M : YM) (l : U) (states : Int) (x9 : U) (x10 : Int) (x11 : Int) : YRs := yrunM M 63 1 (yz 42 [(0, .val l), (1, .val (.c (.int .i64 states))), (9, .val x9), (10, .val (.c (.int .i64 x10))), (11, .val (.c (.int .i64 x11)))]) []
-- stutter/stutterref14.stateErr
noncomputable def y65 (M : YM) (a_0 : Int) (a_1 : U) (a_2 : U) (a_3 : U) (l : U) (i : Int) : YRs := yrunM M 65 0 ([.val (.st [.c (.int .i64 a_0), a_1, a_2, a_3]), .val l, .val (.c (.int .i64 i))]) []
-- slices.IndexFunc[[]stutter/api.AutomatonEdge,stutter/api.AutomatonEdge]
noncomputable def y75 (M : YM) (s : U) (f : U) : YRs := yrunM M 75 0 ([.val s, .val f]) []
noncomputable def y75_1 (M : YM) (s : U) (f : U) (x7 : Int) (x8 : Int) : YRs := yrunM M 75 1 (yz 19 [(0, .val s), (1, .val f), (7, .val (.c (.int .i64 x7))), (8, .val (.c (.int .i64 x8)))]) []
-- stutter/stutterref13.Has
noncomputable def y81 (M : YM) (letter : Int) (atom : Int) : YRs := yrunM M 81 0 ([.val (.c (.int .i64 letter)), .val (.c (.int .i64 atom))]) []
-- stutter/lasso.CheckWord
noncomputable def y84 (M : YM) (w_0 : U) (w_1 : U) : YRs := yrunM M 84 0 ([.val (.st [w_0, w_1])]) []
-- slices.Grow[[]int,int]
noncomputable def y89 (M : YM) (s : U) (n : Int) : YRs := yrunM M 89 0 ([.val s, .val (.c (.int .i64 n))]) []
noncomputable def y89_1 (M : YM) (s : U) (n : Int) : YRs := yrunM M 89 1 (yz 27 [(0, .val s), (1, .val (.c (.int .i64 n)))]) []
noncomputable def y89_2 (M : YM) (s : Sx) : YRs := yrunM M 89 2 (yz 27 [(0, .h 10000)]) [.sl s]
noncomputable def y89_2b (M : YM) (s : U) : YRs := yrunM M 89 2 (yz 27 [(0, .val s)]) []
-- slices.Index[[]int,int]
noncomputable def y90 (M : YM) (s : U) (v : Int) : YRs := yrunM M 90 0 ([.val s, .val (.c (.int .i64 v))]) []
noncomputable def y90_1 (M : YM) (s : U) (v : Int) (x7 : Int) (x8 : Int) : YRs := yrunM M 90 1 (yz 19 [(0, .val s), (1, .val (.c (.int .i64 v))), (7, .val (.c (.int .i64 x7))), (8, .val (.c (.int .i64 x8)))]) []
-- slices.IndexFunc[[]int,int]
noncomputable def y91 (M : YM) (s : U) (f : U) : YRs := yrunM M 91 0 ([.val s, .val f]) []
noncomputable def y91_1 (M : YM) (s : U) (f : U) (x7 : Int) (x8 : Int) : YRs := yrunM M 91 1 (yz 19 [(0, .val s), (1, .val f), (7, .val (.c (.int .i64 x7))), (8, .val (.c (.int .i64 x8)))]) []
-- stutter/lasso.CheckWord$1
noncomputable def y106 (M : YM) (n : Int) : YRs := yrunM M 106 0 ([.val (.c (.int .i64 n))]) []
-- stutter/lasso.spans
noncomputable def y107 (M : YM) (n : Int) (vfrom : Int) (to : Int) : YRs := yrunM M 107 0 ([.val (.c (.int .i64 n)), .val (.c (.int .i64 vfrom)), .val (.c (.int .i64 to))]) []
-- stutter/lasso.wrong
noncomputable def y108 (M : YM) (is : Bool) (code : Int) : YRs := yrunM M 108 0 ([.val (.c (.bool is)), .val (.c (.int .i64 code))]) []
-- stutter/stutterlaw14.awake (outside)
noncomputable def y8 (M : YM) : YRs := yrunM M 8 0 [] []
-- stutter/stutterlaw14.AutomataRuns
theorem y5_eq (M : YM) (a_0 : Int) (a_1 : U) (a_2 : U) (a_3 : U) (w_0 : U) (w_1 : U) (run_0 : U) (run_1 : U) : y5 M a_0 a_1 a_2 a_3 w_0 w_1 run_0 run_1 =
  (y8 M).bind fun r1 =>
  (Rz.toU r1).bind fun u2 =>
  (U.asB u2).bind fun b3 =>
  (if (!b3) = true then
  some (.val (.c (.bool false)))
  else
  (y9 M a_0 a_1 a_2 a_3).bind fun r4 =>
  (Rz.toU r4).bind fun u5 =>
  (U.asB u5).bind fun b6 =>
  (if (!b6) = false then
  (y17 M w_0 w_1).bind fun r7 =>
  (Rz.toU r7).bind fun u8 =>
  (U.asB u8).bind fun b9 =>
  some (!b9)
  else
  some (!b6)).bind fun q10 =>
  (if q10 = false then
  (U.len run_0).bind fun k11 =>
  some (decide (100 < ((k11 : Nat) : Int)))
  else
  some q10).bind fun q12 =>
  (if q12 = false then
  (U.len run_1).bind fun k13 =>
  some (decide (100 < ((k13 : Nat) : Int)))
  else
  some q12).bind fun q14 =>
  (if q14 = true then
  some (.val (.c (.bool true)))
  else
  (y11 M a_0 a_1 a_2 a_3).bind fun r15 =>
  (Rz.toU r15).bind fun u16 =>
  (U.exact u16 ks2).bind fun f17 =>
  (y19 M w_0 w_1).bind fun r18 =>
  (Rz.toU r18).bind fun u19 =>
  (U.exact u19 ks1).bind fun f20 =>
  (y24 M run_0 run_1).bind fun r21 =>
  (Rz.toU r21).bind fun u22 =>
  (U.exact u22 ks1).bind fun f23 =>
  (y23 M ((f17 0).i) (f17 1) (f17 2) (f17 3) (f20 0) (f20 1) (f23 0) (f23 1)).bind fun r24 =>
  (Rz.asTup r24).bind fun t25 =>
  (t25[0]?).bind fun u26 =>
  (U.asI .i64 u26).bind fun n27 =>
  (t25[1]?).bind fun u28 =>
  (U.asI .i64 u28).bind fun n29 =>
  (y22 M a_0 a_1 a_2 a_3 w_0 w_1 run_0 run_1).bind fun r30 =>
  (Rz.asTup r30).bind fun t31 =>
  (t31[0]?).bind fun u32 =>
  (U.asI .i64 u32).bind fun n33 =>
  (t31[1]?).bind fun u34 =>
  (U.asI .i64 u34).bind fun n35 =>
  (if (decide (n29 = n35)) = true then
  some (decide (n27 = n33))
  else
  some (decide (n29 = n35))).bind fun q36 =>
  some (.val (.c (.bool q36))))) := by
  unfold y5 yrunM; rw [yrun_eq]; kernel_rfl
-- stutter/stutterlaw14.few
theorem y9_eq (M : YM) (a_0 : Int) (a_1 : U) (a_2 : U) (a_3 : U) : y9 M a_0 a_1 a_2 a_3 =
  (if (decide (30 < a_0)) = true then
  some (decide (a_0 ≤ 300))
  else
  some (decide (30 < a_0))).bind fun q1 =>
  (if q1 = false then
  (U.len a_2).bind fun k2 =>
  some (decide (60 < ((k2 : Nat) : Int)))
  else
  some q1).bind fun q3 =>
  (if q3 = false then
  (U.len a_1).bind fun k4 =>
  some (decide (40 < ((k4 : Nat) : Int)))
  else
  some q3).bind fun q5 =>
  (if q5 = false then
  (U.len a_3).bind fun k6 =>
  some (decide (12 < ((k6 : Nat) : Int)))
  else
  some q5).bind fun q7 =>
  (if q7 = true then
  some (.val (.c (.bool false)))
  else
  y9_1 M a_0 a_1 a_2 a_3 0) := by
  unfold y9 yrunM; rw [yrun_eq]; kernel_rfl
theorem y9_1_eq (M : YM) (a_0 : Int) (a_1 : U) (a_2 : U) (a_3 : U) (k : Int) : y9_1 M a_0 a_1 a_2 a_3 k =
  (U.len a_3).bind fun k1 =>
  (if (decide (k < ((k1 : Nat) : Int))) = true then
  (U.idx 1 a_3 k).bind fun v2 =>
  (U.cell v2 0).bind fun c3 =>
  (U.len c3).bind fun k4 =>
  (if (decide (40 < ((k4 : Nat) : Int))) = true then
  some (.val (.c (.bool false)))
  else
  y9_1 M a_0 a_1 a_2 a_3 (IntKind.wrap .i64 (k + 1)))
  else
  some (.val (.c (.bool true)))) := by
  unfold y9_1 yrunM; rw [yrun_eq]; kernel_rfl
-- stutter/stutterref14.Own
theorem y11_eq (M : YM) (a_0 : Int) (a_1 : U) (a_2 : U) (a_3 : U) : y11 M a_0 a_1 a_2 a_3 =
  (y38 M a_1).bind fun r1 =>
  (Rz.asSl r1).bind fun s2 =>
  (U.asL a_2).bind fun l3 =>
  (Sx.app (⟨true, 4, []⟩ : Sx) 4 l3.2).bind fun s4 =>
  (y39 M a_3).bind fun r5 =>
  (Rz.asSl r5).bind fun s6 =>
  some (.val (.st [.c (.int .i64 a_0), Sx.fz s2, Sx.fz s4, Sx.fz s6])) := by
  unfold y11 yrunM; rw [yrun_eq]; kernel_rfl
-- stutter/stutterref14.Err
theorem y12_eq (M : YM) (a_0 : Int) (a_1 : U) (a_2 : U) (a_3 : U) : y12 M a_0 a_1 a_2 a_3 =
  (y27 M a_0 a_1 a_2 a_3).bind fun r1 =>
  (Rz.asTup r1).bind fun t2 =>
  (t2[0]?).bind fun u3 =>
  (U.asI .i64 u3).bind fun n4 =>
  (t2[1]?).bind fun u5 =>
  (U.asI .i64 u5).bind fun n6 =>
  some (.val (.c (.int .i64 n6))) := by
  unfold y12 yrunM; rw [yrun_eq]; kernel_rfl
-- stutter/stutterref13.WordErr
theorem y15_eq (M : YM) (w_0 : U) (w_1 : U) : y15 M w_0 w_1 =
  (U.len w_1).bind fun k1 =>
  (if (decide (((k1 : Nat) : Int) = 0)) = true then
  some (.val (.c (.int .i64 1)))
  else
  (U.len w_0).bind fun k2 =>
  (U.len w_1).bind fun k3 =>
  (if (decide (60 < (IntKind.wrap .i64 (((k2 : Nat) : Int) + ((k3 : Nat) : Int))))) = true then
  some (.val (.c (.int .i64 2)))
  else
  y15_1 M w_0 w_1 0)) := by
  unfold y15 yrunM; rw [yrun_eq]; kernel_rfl
theorem y15_1_eq (M : YM) (w_0 : U) (w_1 : U) (i : Int) : y15_1 M w_0 w_1 i =
  (U.len w_0).bind fun k1 =>
  (U.len w_1).bind fun k2 =>
  (if (decide (i < (IntKind.wrap .i64 (((k1 : Nat) : Int) + ((k2 : Nat) : Int))))) = true then
  (y42 M w_0 w_1 i).bind fun r3 =>
  (Rz.toU r3).bind fun u4 =>
  (U.asI .i64 u4).bind fun n5 =>
  (y41 M n5 0 4095).bind fun r6 =>
  (Rz.toU r6).bind fun u7 =>
  (U.asB u7).bind fun b8 =>
  (if (!b8) = true then
  some (.val (.c (.int .i64 3)))
  else
  y15_1 M w_0 w_1 (IntKind.wrap .i64 (i + 1)))
  else
  some (.val (.c (.int .i64 0)))) := by
  unfold y15_1 yrunM; rw [yrun_eq]; kernel_rfl
-- stutter/stutterlaw13.Short
theorem y17_eq (M : YM) (w_0 : U) (w_1 : U) : y17 M w_0 w_1 =
  (U.len w_0).bind fun k1 =>
  (if (decide (((k1 : Nat) : Int) ≤ 70)) = true then
  (U.len w_1).bind fun k2 =>
  some (decide (((k2 : Nat) : Int) ≤ 70))
  else
  some (decide (((k1 : Nat) : Int) ≤ 70))).bind fun q3 =>
  some (.val (.c (.bool q3))) := by
  unfold y17 yrunM; rw [yrun_eq]; kernel_rfl
-- stutter/stutterref13.OwnWord
theorem y19_eq (M : YM) (w_0 : U) (w_1 : U) : y19 M w_0 w_1 =
  (y38 M w_0).bind fun r1 =>
  (Rz.asSl r1).bind fun s2 =>
  (y38 M w_1).bind fun r3 =>
  (Rz.asSl r3).bind fun s4 =>
  some (.val (.st [Sx.fz s2, Sx.fz s4])) := by
  unfold y19 yrunM; rw [yrun_eq]; kernel_rfl
-- stutter/stutterref14.CheckRun
theorem y22_eq (M : YM) (a_0 : Int) (a_1 : U) (a_2 : U) (a_3 : U) (w_0 : U) (w_1 : U) (run_0 : U) (run_1 : U) : y22 M a_0 a_1 a_2 a_3 w_0 w_1 run_0 run_1 =
  (y12 M a_0 a_1 a_2 a_3).bind fun r1 =>
  (Rz.toU r1).bind fun u2 =>
  (U.asI .i64 u2).bind fun n3 =>
  (if (!decide (n3 = 0)) = true then
  some (.tup [.c (.int .i64 0), .c (.int .i64 n3)])
  else
  (y15 M w_0 w_1).bind fun r4 =>
  (Rz.toU r4).bind fun u5 =>
  (U.asI .i64 u5).bind fun n6 =>
  (if (!decide (n6 = 0)) = true then
  some (.tup [.c (.int .i64 0), .c (.int .i64 n6)])
  else
  (U.len run_1).bind fun k7 =>
  (if (decide (((k7 : Nat) : Int) = 0)) = true then
  some (.tup [.c (.int .i64 0), .c (.int .i64 1)])
  else
  (U.len run_0).bind fun k8 =>
  (U.len run_1).bind fun k9 =>
  (if (decide (20000 < (IntKind.wrap .i64 (((k8 : Nat) : Int) + ((k9 : Nat) : Int))))) = true then
  some (.tup [.c (.int .i64 0), .c (.int .i64 2)])
  else
  (U.len run_0).bind fun k10 =>
  (U.len w_0).bind fun k11 =>
  (if (decide (((k10 : Nat) : Int) < ((k11 : Nat) : Int))) = false then
  (U.len run_0).bind fun k12 =>
  (U.len w_0).bind fun k13 =>
  (U.len w_1).bind fun k14 =>
  (if ((k14 : Nat) : Int) = 0 then
  none
  else
  some (!decide ((Int.tmod (IntKind.wrap .i64 (((k12 : Nat) : Int) - ((k13 : Nat) : Int))) ((k14 : Nat) : Int)) = 0)))
  else
  some (decide (((k10 : Nat) : Int) < ((k11 : Nat) : Int)))).bind fun q15 =>
  (if q15 = false then
  (U.len run_1).bind fun k16 =>
  (U.len w_1).bind fun k17 =>
  (if ((k17 : Nat) : Int) = 0 then
  none
  else
  some (!decide ((Int.tmod ((k16 : Nat) : Int) ((k17 : Nat) : Int)) = 0)))
  else
  some q15).bind fun q18 =>
  (if q18 = true then
  some (.tup [.c (.int .i64 0), .c (.int .i64 6)])
  else
  y22_1 M a_0 a_1 a_2 a_3 w_0 w_1 run_0 run_1 (IntKind.wrap .i64 (((k8 : Nat) : Int) + ((k9 : Nat) : Int))) 0))))) := by
  unfold y22 yrunM; rw [yrun_eq]; kernel_rfl
theorem y22_1_eq (M : YM) (a_0 : Int) (a_1 : U) (a_2 : U) (a_3 : U) (w_0 : U) (w_1 : U) (run_0 : U) (run_1 : U) (n : Int) (i : Int) : y22_1 M a_0 a_1 a_2 a_3 w_0 w_1 run_0 run_1 n i =
  (if (decide (i < n)) = true then
  (y48 M run_0 run_1 i).bind fun r1 =>
  (Rz.toU r1).bind fun u2 =>
  (U.asI .i64 u2).bind fun n3 =>
  (y41 M n3 0 (IntKind.wrap .i64 (a_0 - 1))).bind fun r4 =>
  (Rz.toU r4).bind fun u5 =>
  (U.asB u5).bind fun b6 =>
  (if (!b6) = true then
  some (.tup [.c (.int .i64 i), .c (.int .i64 3)])
  else
  y22_1 M a_0 a_1 a_2 a_3 w_0 w_1 run_0 run_1 n (IntKind.wrap .i64 (i + 1)))
  else
  (y48 M run_0 run_1 0).bind fun r7 =>
  (Rz.toU r7).bind fun u8 =>
  (U.asI .i64 u8).bind fun n9 =>
  (y49 M a_1 n9).bind fun r10 =>
  (Rz.toU r10).bind fun u11 =>
  (U.asB u11).bind fun b12 =>
  (if (!b12) = true then
  some (.tup [.c (.int .i64 0), .c (.int .i64 30)])
  else
  y22_2 M a_0 a_1 a_2 a_3 w_0 w_1 run_0 run_1 n 0)) := by
  unfold y22_1 yrunM; rw [yrun_eq]; kernel_rfl
theorem y22_2_eq (M : YM) (a_0 : Int) (a_1 : U) (a_2 : U) (a_3 : U) (w_0 : U) (w_1 : U) (run_0 : U) (run_1 : U) (n : Int) (i : Int) : y22_2 M a_0 a_1 a_2 a_3 w_0 w_1 run_0 run_1 n i =
  (if (decide (i < n)) = true then
  (y48 M run_0 run_1 i).bind fun r1 =>
  (Rz.toU r1).bind fun u2 =>
  (U.asI .i64 u2).bind fun n3 =>
  (y51 M run_0 run_1 i).bind fun r4 =>
  (Rz.toU r4).bind fun u5 =>
  (U.asI .i64 u5).bind fun n6 =>
  (y48 M run_0 run_1 n6).bind fun r7 =>
  (Rz.toU r7).bind fun u8 =>
  (U.asI .i64 u8).bind fun n9 =>
  (y42 M w_0 w_1 i).bind fun r10 =>
  (Rz.toU r10).bind fun u11 =>
  (U.asI .i64 u11).bind fun n12 =>
  (y50 M a_0 a_1 a_2 a_3 n3 n9 0 0 n12).bind fun r13 =>
  (Rz.toU r13).bind fun u14 =>
  (U.asB u14).bind fun b15 =>
  (if (!b15) = true then
  some (.tup [.c (.int .i64 i), .c (.int .i64 10)])
  else
  y22_2 M a_0 a_1 a_2 a_3 w_0 w_1 run_0 run_1 n (IntKind.wrap .i64 (i + 1)))
  else
  y22_3 M a_0 a_1 a_2 a_3 run_0 run_1 0) := by
  unfold y22_2 yrunM; rw [yrun_eq]; kernel_rfl
theorem y22_3_eq (M : YM) (a_0 : Int) (a_1 : U) (a_2 : U) (a_3 : U) (run_0 : U) (run_1 : U) (k : Int) : y22_3 M a_0 a_1 a_2 a_3 run_0 run_1 k =
  (U.len a_3).bind fun k1 =>
  (if (decide (k < ((k1 : Nat) : Int))) = true then
  y22_4 M a_0 a_1 a_2 a_3 run_0 run_1 k false 0
  else
  some (.tup [.c (.int .i64 0), .c (.int .i64 0)])) := by
  unfold y22_3 yrunM; rw [yrun_eq]; kernel_rfl
theorem y22_4_eq (M : YM) (a_0 : Int) (a_1 : U) (a_2 : U) (a_3 : U) (run_0 : U) (run_1 : U) (k : Int) (meets : Bool) (i : Int) : y22_4 M a_0 a_1 a_2 a_3 run_0 run_1 k meets i =
  (U.len run_1).bind fun k1 =>
  (if (decide (i < ((k1 : Nat) : Int))) = true then
  (if meets = false then
  (U.idx 1 a_3 k).bind fun v2 =>
  (U.idx 1 run_1 i).bind fun v3 =>
  (U.cell v2 0).bind fun c4 =>
  (U.cell v3 0).bind fun c5 =>
  (U.asI .i64 c5).bind fun n6 =>
  (y49 M c4 n6).bind fun r7 =>
  (Rz.toU r7).bind fun u8 =>
  (U.asB u8).bind fun b9 =>
  some b9
  else
  some meets).bind fun q10 =>
  y22_4 M a_0 a_1 a_2 a_3 run_0 run_1 k q10 (IntKind.wrap .i64 (i + 1))
  else
  (if (!meets) = true then
  some (.tup [.c (.int .i64 k), .c (.int .i64 25)])
  else
  y22_3 M a_0 a_1 a_2 a_3 run_0 run_1 (IntKind.wrap .i64 (k + 1)))) := by
  unfold y22_4 yrunM; rw [yrun_eq]; kernel_rfl
-- stutter/automata.CheckRun
theorem y23_eq (M : YM) (a_0 : Int) (a_1 : U) (a_2 : U) (a_3 : U) (w_0 : U) (w_1 : U) (run_0 : U) (run_1 : U) : y23 M a_0 a_1 a_2 a_3 w_0 w_1 run_0 run_1 =
  (y45 M a_0 a_1 a_2 a_3 w_0 w_1).bind fun r1 =>
  (Rz.toU r1).bind fun u2 =>
  (U.asI .i64 u2).bind fun n3 =>
  (if (!decide (n3 = 0)) = true then
  some (.tup [.c (.int .i64 0), .c (.int .i64 n3)])
  else
  (U.len run_0).bind fun k4 =>
  (U.len w_0).bind fun k5 =>
  (U.len run_1).bind fun k6 =>
  (U.len run_0).bind fun k7 =>
  (U.len run_1).bind fun k8 =>
  (y53 M (decide (((k6 : Nat) : Int) = 0)) 1).bind fun r9 =>
  (Rz.toU r9).bind fun u10 =>
  (U.asI .i64 u10).bind fun n11 =>
  (y53 M (decide (20000 < (IntKind.wrap .i64 (((k7 : Nat) : Int) + ((k8 : Nat) : Int))))) 2).bind fun r12 =>
  (Rz.toU r12).bind fun u13 =>
  (U.asI .i64 u13).bind fun n14 =>
  (if (decide ((IntKind.wrap .i64 (((k4 : Nat) : Int) - ((k5 : Nat) : Int))) < 0)) = false then
  (U.len w_1).bind fun k15 =>
  (if ((k15 : Nat) : Int) = 0 then
  none
  else
  some (!decide ((Int.tmod (IntKind.wrap .i64 (((k4 : Nat) : Int) - ((k5 : Nat) : Int))) ((k15 : Nat) : Int)) = 0)))
  else
  some (decide ((IntKind.wrap .i64 (((k4 : Nat) : Int) - ((k5 : Nat) : Int))) < 0))).bind fun q16 =>
  (if q16 = false then
  (U.len run_1).bind fun k17 =>
  (U.len w_1).bind fun k18 =>
  (if ((k18 : Nat) : Int) = 0 then
  none
  else
  some (!decide ((Int.tmod ((k17 : Nat) : Int) ((k18 : Nat) : Int)) = 0)))
  else
  some q16).bind fun q19 =>
  (y53 M q19 6).bind fun r20 =>
  (Rz.toU r20).bind fun u21 =>
  (U.asI .i64 u21).bind fun n22 =>
  (y52 M (Sx.fz (⟨true, 1, [.c (.int .i64 n11), .c (.int .i64 n14), .c (.int .i64 n22)]⟩ : Sx))).bind fun r23 =>
  (Rz.toU r23).bind fun u24 =>
  (U.asI .i64 u24).bind fun n25 =>
  (if (!decide (n25 = 0)) = true then
  some (.tup [.c (.int .i64 0), .c (.int .i64 n25)])
  else
  (if U.size run_0 = 1 then
  (if U.size run_1 = 1 then
  (y54 M (Sx.fz (⟨true, 1, [run_0, run_1]⟩ : Sx))).bind fun r26 =>
  (Rz.asSl r26).bind fun s27 =>
  y23_1 M a_0 a_1 a_2 a_3 w_0 w_1 run_0 run_1 (((s27.es).length : Nat) : Int) 0 s27
  else
  none)
  else
  none))) := by
  unfold y23 yrunM; rw [yrun_eq]; kernel_rfl
theorem y23_1_eq (M : YM) (a_0 : Int) (a_1 : U) (a_2 : U) (a_3 : U) (w_0 : U) (w_1 : U) (run_0 : U) (run_1 : U) (x80 : Int) (x81 : Int) (all : Sx) : y23_1 M a_0 a_1 a_2 a_3 w_0 w_1 run_0 run_1 x80 x81 all =
  (if (decide (x81 < x80)) = true then
  (if Sx.has all 1 x81 = true then
  ((all.es)[x81.toNat]?).bind fun v1 =>
  (U.cell v1 0).bind fun c2 =>
  (U.asI .i64 c2).bind fun n3 =>
  (y55 M n3 0 (IntKind.wrap .i64 (a_0 - 1))).bind fun r4 =>
  (Rz.toU r4).bind fun u5 =>
  (U.asB u5).bind fun b6 =>
  (if (!b6) = true then
  some (.tup [.c (.int .i64 x81), .c (.int .i64 3)])
  else
  y23_1 M a_0 a_1 a_2 a_3 w_0 w_1 run_0 run_1 x80 (IntKind.wrap .i64 (x81 + 1)) all)
  else
  none)
  else
  (if Sx.has all 1 0 = true then
  ((all.es)[(0 : Int).toNat]?).bind fun v7 =>
  (U.cell v7 0).bind fun c8 =>
  (U.asI .i64 c8).bind fun n9 =>
  (y56 M a_1 n9).bind fun r10 =>
  (Rz.toU r10).bind fun u11 =>
  (U.asB u11).bind fun b12 =>
  (if (!b12) = true then
  some (.tup [.c (.int .i64 0), .c (.int .i64 30)])
  else
  y23_2 M a_0 a_1 a_2 a_3 w_0 w_1 run_0 run_1 (((all.es).length : Nat) : Int) 0 all)
  else
  none)) := by
  unfold y23_1 yrunM; rw [yrun_eq]; kernel_rfl
theorem y23_2_eq (M : YM) (a_0 : Int) (a_1 : U) (a_2 : U) (a_3 : U) (w_0 : U) (w_1 : U) (run_0 : U) (run_1 : U) (x102 : Int) (x103 : Int) (all : Sx) : y23_2 M a_0 a_1 a_2 a_3 w_0 w_1 run_0 run_1 x102 x103 all =
  (if (decide (x103 < x102)) = true then
  (if Sx.has all 1 x103 = true then
  ((all.es)[x103.toNat]?).bind fun v1 =>
  (U.cell v1 0).bind fun c2 =>
  (U.asI .i64 c2).bind fun n3 =>
  (U.idx 1 run_1 0).bind fun v4 =>
  (U.cell v4 0).bind fun c5 =>
  (U.asI .i64 c5).bind fun n6 =>
  (if (decide (x103 < (IntKind.wrap .i64 ((((all.es).length : Nat) : Int) - 1)))) = true then
  (if Sx.has all 1 (IntKind.wrap .i64 (x103 + 1)) = true then
  ((all.es)[(IntKind.wrap .i64 (x103 + 1)).toNat]?).bind fun v7 =>
  (U.cell v7 0).bind fun c8 =>
  (U.asI .i64 c8).bind fun n9 =>
  y23_3 M a_0 a_1 a_2 a_3 w_0 w_1 run_0 run_1 x103 x102 x103 all n3 n9
  else
  none)
  else
  y23_3 M a_0 a_1 a_2 a_3 w_0 w_1 run_0 run_1 x103 x102 x103 all n3 n6)
  else
  none)
  else
  (U.len a_3).bind fun k10 =>
  y23_4 M run_0 run_1 a_3 ((k10 : Nat) : Int) 0) := by
  unfold y23_2 yrunM; rw [yrun_eq]; kernel_rfl
theorem y23_3_eq (M : YM) (a_0 : Int) (a_1 : U) (a_2 : U) (a_3 : U) (w_0 : U) (w_1 : U) (run_0 : U) (run_1 : U) (i : Int) (x102 : Int) (x103 : Int) (all : Sx) (s : Int) (to : Int) : y23_3 M a_0 a_1 a_2 a_3 w_0 w_1 run_0 run_1 i x102 x103 all s to =
  (y57 M w_0 w_1 i).bind fun r1 =>
  (Rz.toU r1).bind fun u2 =>
  (U.asI .i64 u2).bind fun n3 =>
  (y58 M a_2 (.fn 59 [] [.ref (.st [.c (.int .i64 s)]) 0, .ref (.st [.c (.int .i64 to)]) 0, .ref (.st [.c (.int .i64 n3)]) 0])).bind fun r4 =>
  (Rz.toU r4).bind fun u5 =>
  (U.asB u5).bind fun b6 =>
  (if (!b6) = true then
  some (.tup [.c (.int .i64 i), .c (.int .i64 10)])
  else
  y23_2 M a_0 a_1 a_2 a_3 w_0 w_1 run_0 run_1 x102 (IntKind.wrap .i64 (x103 + 1)) all) := by
  unfold y23_3 yrunM; rw [yrun_eq]; kernel_rfl
theorem y23_4_eq (M : YM) (run_0 : U) (run_1 : U) (x133 : U) (x134 : Int) (x135 : Int) : y23_4 M run_0 run_1 x133 x134 x135 =
  (if (decide (x135 < x134)) = true then
  (U.idx 1 x133 x135).bind fun v1 =>
  (U.cell v1 0).bind fun c2 =>
  (U.one c2).bind fun u3 =>
  (y61 M run_1 (.fn 62 [] [.ref (.st [u3]) 0])).bind fun r4 =>
  (Rz.toU r4).bind fun u5 =>
  (U.asB u5).bind fun b6 =>
  (if (!b6) = true then
  some (.tup [.c (.int .i64 x135), .c (.int .i64 25)])
  else
  y23_4 M run_0 run_1 x133 x134 (IntKind.wrap .i64 (x135 + 1)))
  else
  some (.tup [.c (.int .i64 0), .c (.int .i64 0)])) := by
  unfold y23_4 yrunM; rw [yrun_eq]; kernel_rfl
-- stutter/stutterref13.OwnLasso
theorem y24_eq (M : YM) (l_0 : U) (l_1 : U) : y24 M l_0 l_1 =
  (y38 M l_0).bind fun r1 =>
  (Rz.asSl r1).bind fun s2 =>
  (y38 M l_1).bind fun r3 =>
  (Rz.asSl r3).bind fun s4 =>
  some (.val (.st [Sx.fz s2, Sx.fz s4])) := by
  unfold y24 yrunM; rw [yrun_eq]; kernel_rfl
-- stutter/automata.CheckAutomaton
theorem y25_eq (M : YM) (a_0 : Int) (a_1 : U) (a_2 : U) (a_3 : U) : y25 M a_0 a_1 a_2 a_3 =
  (U.len a_2).bind fun k1 =>
  (if (decide (6000 < ((k1 : Nat) : Int))) = false then
  (U.len a_3).bind fun k2 =>
  some (decide (8 < ((k2 : Nat) : Int)))
  else
  some (decide (6000 < ((k1 : Nat) : Int)))).bind fun q3 =>
  (y55 M a_0 0 300).bind fun r4 =>
  (Rz.toU r4).bind fun u5 =>
  (U.asB u5).bind fun b6 =>
  (y53 M (!b6) 3).bind fun r7 =>
  (Rz.toU r7).bind fun u8 =>
  (U.asI .i64 u8).bind fun n9 =>
  (y53 M q3 2).bind fun r10 =>
  (Rz.toU r10).bind fun u11 =>
  (U.asI .i64 u11).bind fun n12 =>
  (y52 M (Sx.fz (⟨true, 1, [.c (.int .i64 n9), .c (.int .i64 n12)]⟩ : Sx))).bind fun r13 =>
  (Rz.toU r13).bind fun u14 =>
  (U.asI .i64 u14).bind fun n15 =>
  (if (!decide (n15 = 0)) = true then
  some (.tup [.c (.int .i64 0), .c (.int .i64 n15)])
  else
  (y63 M a_1 a_0).bind fun r16 =>
  (Rz.asTup r16).bind fun t17 =>
  (t17[0]?).bind fun u18 =>
  (U.asI .i64 u18).bind fun n19 =>
  (t17[1]?).bind fun u20 =>
  (U.asI .i64 u20).bind fun n21 =>
  (if (!decide (n21 = 0)) = true then
  some (.tup [.c (.int .i64 n19), .c (.int .i64 n21)])
  else
  (U.len a_2).bind fun k22 =>
  y25_1 M a_0 a_1 a_2 a_3 a_2 ((k22 : Nat) : Int) 0)) := by
  unfold y25 yrunM; rw [yrun_eq]; kernel_rfl
theorem y25_1_eq (M : YM) (a_0 : Int) (a_1 : U) (a_2 : U) (a_3 : U) (x49 : U) (x50 : Int) (x51 : Int) : y25_1 M a_0 a_1 a_2 a_3 x49 x50 x51 =
  (if (decide (x51 < x50)) = true then
  (U.idx 4 x49 x51).bind fun v1 =>
  (U.struct v1 0 ks0).bind fun f2 =>
  (y55 M ((f2 0).i) 0 (IntKind.wrap .i64 (a_0 - 1))).bind fun r3 =>
  (Rz.toU r3).bind fun u4 =>
  (U.asB u4).bind fun b5 =>
  (if (!b5) = false then
  (y55 M ((f2 1).i) 0 (IntKind.wrap .i64 (a_0 - 1))).bind fun r6 =>
  (Rz.toU r6).bind fun u7 =>
  (U.asB u7).bind fun b8 =>
  some (!b8)
  else
  some (!b5)).bind fun q9 =>
  (if q9 = false then
  (y55 M ((f2 2).i) 0 4095).bind fun r10 =>
  (Rz.toU r10).bind fun u11 =>
  (U.asB u11).bind fun b12 =>
  some (!b12)
  else
  some q9).bind fun q13 =>
  (if q13 = false then
  (y55 M ((f2 3).i) 0 4095).bind fun r14 =>
  (Rz.toU r14).bind fun u15 =>
  (U.asB u15).bind fun b16 =>
  some (!b16)
  else
  some q13).bind fun q17 =>
  (if q17 = true then
  some (.tup [.c (.int .i64 x51), .c (.int .i64 3)])
  else
  y25_1 M a_0 a_1 a_2 a_3 x49 x50 (IntKind.wrap .i64 (x51 + 1)))
  else
  (U.len a_3).bind fun k18 =>
  y25_2 M a_0 a_1 a_2 a_3 a_3 ((k18 : Nat) : Int) 0) := by
  unfold y25_1 yrunM; rw [yrun_eq]; kernel_rfl
theorem y25_2_eq (M : YM) (a_0 : Int) (a_1 : U) (a_2 : U) (a_3 : U) (x87 : U) (x88 : Int) (x89 : Int) : y25_2 M a_0 a_1 a_2 a_3 x87 x88 x89 =
  (if (decide (x89 < x88)) = true then
  (U.idx 1 x87 x89).bind fun v1 =>
  (U.cell v1 0).bind fun c2 =>
  (y63 M c2 a_0).bind fun r3 =>
  (Rz.asTup r3).bind fun t4 =>
  (t4[0]?).bind fun u5 =>
  (U.asI .i64 u5).bind fun n6 =>
  (t4[1]?).bind fun u7 =>
  (U.asI .i64 u7).bind fun n8 =>
  (if (!decide (n8 = 0)) = true then
  some (.tup [.c (.int .i64 x89), .c (.int .i64 n8)])
  else
  y25_2 M a_0 a_1 a_2 a_3 x87 x88 (IntKind.wrap .i64 (x89 + 1)))
  else
  some (.tup [.c (.int .i64 0), .c (.int .i64 0)])) := by
  unfold y25_2 yrunM; rw [yrun_eq]; kernel_rfl
-- stutter/stutterref14.Check
theorem y27_eq (M : YM) (a_0 : Int) (a_1 : U) (a_2 : U) (a_3 : U) : y27 M a_0 a_1 a_2 a_3 =
  (y41 M a_0 0 300).bind fun r1 =>
  (Rz.toU r1).bind fun u2 =>
  (U.asB u2).bind fun b3 =>
  (if (!b3) = true then
  some (.tup [.c (.int .i64 0), .c (.int .i64 3)])
  else
  (U.len a_2).bind fun k4 =>
  (if (decide (6000 < ((k4 : Nat) : Int))) = false then
  (U.len a_3).bind fun k5 =>
  some (decide (8 < ((k5 : Nat) : Int)))
  else
  some (decide (6000 < ((k4 : Nat) : Int)))).bind fun q6 =>
  (if q6 = true then
  some (.tup [.c (.int .i64 0), .c (.int .i64 2)])
  else
  y27_1 M a_0 a_1 a_2 a_3 0)) := by
  unfold y27 yrunM; rw [yrun_eq]; kernel_rfl
theorem y27_1_eq (M : YM) (a_0 : Int) (a_1 : U) (a_2 : U) (a_3 : U) (i : Int) : y27_1 M a_0 a_1 a_2 a_3 i =
  (U.len a_1).bind fun k1 =>
  (if (decide (i < ((k1 : Nat) : Int))) = true then
  (y65 M a_0 a_1 a_2 a_3 a_1 i).bind fun r2 =>
  (Rz.toU r2).bind fun u3 =>
  (U.asI .i64 u3).bind fun n4 =>
  (if (!decide (n4 = 0)) = true then
  some (.tup [.c (.int .i64 i), .c (.int .i64 n4)])
  else
  y27_1 M a_0 a_1 a_2 a_3 (IntKind.wrap .i64 (i + 1)))
  else
  y27_2 M a_0 a_1 a_2 a_3 0) := by
  unfold y27_1 yrunM; rw [yrun_eq]; kernel_rfl
theorem y27_2_eq (M : YM) (a_0 : Int) (a_1 : U) (a_2 : U) (a_3 : U) (i : Int) : y27_2 M a_0 a_1 a_2 a_3 i =
  (U.len a_2).bind fun k1 =>
  (if (decide (i < ((k1 : Nat) : Int))) = true then
  (U.idx 4 a_2 i).bind fun v2 =>
  (U.struct v2 0 ks0).bind fun f3 =>
  (y41 M ((f3 0).i) 0 (IntKind.wrap .i64 (a_0 - 1))).bind fun r4 =>
  (Rz.toU r4).bind fun u5 =>
  (U.asB u5).bind fun b6 =>
  (if (!b6) = false then
  (y41 M ((f3 1).i) 0 (IntKind.wrap .i64 (a_0 - 1))).bind fun r7 =>
  (Rz.toU r7).bind fun u8 =>
  (U.asB u8).bind fun b9 =>
  some (!b9)
  else
  some (!b6)).bind fun q10 =>
  (if q10 = false then
  (y41 M ((f3 2).i) 0 4095).bind fun r11 =>
  (Rz.toU r11).bind fun u12 =>
  (U.asB u12).bind fun b13 =>
  some (!b13)
  else
  some q10).bind fun q14 =>
  (if q14 = false then
  (y41 M ((f3 3).i) 0 4095).bind fun r15 =>
  (Rz.toU r15).bind fun u16 =>
  (U.asB u16).bind fun b17 =>
  some (!b17)
  else
  some q14).bind fun q18 =>
  (if q18 = true then
  some (.tup [.c (.int .i64 i), .c (.int .i64 3)])
  else
  y27_2 M a_0 a_1 a_2 a_3 (IntKind.wrap .i64 (i + 1)))
  else
  y27_3 M a_0 a_1 a_2 a_3 0) := by
  unfold y27_2 yrunM; rw [yrun_eq]; kernel_rfl
theorem y27_3_eq (M : YM) (a_0 : Int) (a_1 : U) (a_2 : U) (a_3 : U) (i : Int) : y27_3 M a_0 a_1 a_2 a_3 i =
  (U.len a_3).bind fun k1 =>
  (if (decide (i < ((k1 : Nat) : Int))) = true then
  y27_4 M a_0 a_1 a_2 a_3 i 0
  else
  some (.tup [.c (.int .i64 0), .c (.int .i64 0)])) := by
  unfold y27_3 yrunM; rw [yrun_eq]; kernel_rfl
theorem y27_4_eq (M : YM) (a_0 : Int) (a_1 : U) (a_2 : U) (a_3 : U) (i : Int) (k : Int) : y27_4 M a_0 a_1 a_2 a_3 i k =
  (U.idx 1 a_3 i).bind fun v1 =>
  (U.cell v1 0).bind fun c2 =>
  (U.len c2).bind fun k3 =>
  (if (decide (k < ((k3 : Nat) : Int))) = true then
  (U.idx 1 a_3 i).bind fun v4 =>
  (U.cell v4 0).bind fun c5 =>
  (y65 M a_0 a_1 a_2 a_3 c5 k).bind fun r6 =>
  (Rz.toU r6).bind fun u7 =>
  (U.asI .i64 u7).bind fun n8 =>
  (if (!decide (n8 = 0)) = true then
  some (.tup [.c (.int .i64 i), .c (.int .i64 n8)])
  else
  y27_4 M a_0 a_1 a_2 a_3 i (IntKind.wrap .i64 (k + 1)))
  else
  y27_3 M a_0 a_1 a_2 a_3 (IntKind.wrap .i64 (i + 1))) := by
  unfold y27_4 yrunM; rw [yrun_eq]; kernel_rfl
-- stutter/automata.automatonErr
theorem y36_eq (M : YM) (a_0 : Int) (a_1 : U) (a_2 : U) (a_3 : U) : y36 M a_0 a_1 a_2 a_3 =
  (y25 M a_0 a_1 a_2 a_3).bind fun r1 =>
  (Rz.asTup r1).bind fun t2 =>
  (t2[0]?).bind fun u3 =>
  (U.asI .i64 u3).bind fun n4 =>
  (t2[1]?).bind fun u5 =>
  (U.asI .i64 u5).bind fun n6 =>
  some (.val (.c (.int .i64 n6))) := by
  unfold y36 yrunM; rw [yrun_eq]; kernel_rfl
-- stutter/stutterbase.OwnInts
theorem y38_eq (M : YM) (l : U) : y38 M l =
  (U.asL l).bind fun l1 =>
  (Sx.app (⟨true, 1, []⟩ : Sx) 1 l1.2).bind fun s2 =>
  (if scals s2.es = true then
  some (.sl s2)
  else
  none) := by
  unfold y38 yrunM; rw [yrun_eq]; kernel_rfl
-- stutter/stutterbase.OwnLists
theorem y39_eq (M : YM) (l : U) : y39 M l =
  y39_1 M l 0 (⟨false, 0, []⟩ : Sx) := by
  unfold y39 yrunM; rw [yrun_eq]; kernel_rfl
theorem y39_1_eq (M : YM) (l : U) (i : Int) (out : Sx) : y39_1 M l i out =
  (U.len l).bind fun k1 =>
  (if (decide (i < ((k1 : Nat) : Int))) = true then
  (U.idx 1 l i).bind fun v2 =>
  (U.cell v2 0).bind fun c3 =>
  (y38 M c3).bind fun r4 =>
  (Rz.asSl r4).bind fun s5 =>
  (Sx.app out 1 ([Sx.fz s5])).bind fun s6 =>
  y39_1 M l (IntKind.wrap .i64 (i + 1)) s6
  else
  some (.sl out)) := by
  unfold y39_1 yrunM; rw [yrun_eq]; kernel_rfl
-- stutter/stutterbase.Between
theorem y41_eq (M : YM) (n : Int) (low : Int) (high : Int) : y41 M n low high =
  (if (decide (low ≤ n)) = true then
  some (decide (n ≤ high))
  else
  some (decide (low ≤ n))).bind fun q1 =>
  some (.val (.c (.bool q1))) := by
  unfold y41 yrunM; rw [yrun_eq]; kernel_rfl
-- stutter/stutterref13.Letter
theorem y42_eq (M : YM) (w_0 : U) (w_1 : U) (vat : Int) : y42 M w_0 w_1 vat =
  (U.len w_0).bind fun k1 =>
  (if (decide (vat < ((k1 : Nat) : Int))) = true then
  (U.idx 1 w_0 vat).bind fun v2 =>
  (U.cell v2 0).bind fun c3 =>
  (U.asI .i64 c3).bind fun n4 =>
  some (.val (.c (.int .i64 n4)))
  else
  (U.len w_0).bind fun k5 =>
  (U.len w_1).bind fun k6 =>
  (if ((k6 : Nat) : Int) = 0 then
  none
  else
  (U.idx 1 w_1 (Int.tmod (IntKind.wrap .i64 (vat - ((k5 : Nat) : Int))) ((k6 : Nat) : Int))).bind fun v7 =>
  (U.cell v7 0).bind fun c8 =>
  (U.asI .i64 c8).bind fun n9 =>
  some (.val (.c (.int .i64 n9))))) := by
  unfold y42 yrunM; rw [yrun_eq]; kernel_rfl
-- stutter/stutterref14.Reads
theorem y43_eq (M : YM) (x_0 : Int) (x_1 : Int) (x_2 : Int) (x_3 : Int) (letter : Int) : y43 M x_0 x_1 x_2 x_3 letter =
  y43_1 M letter x_0 x_1 x_2 x_3 0 := by
  unfold y43 yrunM; rw [yrun_eq]; kernel_rfl
theorem y43_1_eq (M : YM) (letter : Int) (x_0 : Int) (x_1 : Int) (x_2 : Int) (x_3 : Int) (i : Int) : y43_1 M letter x_0 x_1 x_2 x_3 i =
  (if (decide (i < 12)) = true then
  (y81 M x_2 i).bind fun r1 =>
  (Rz.toU r1).bind fun u2 =>
  (U.asB u2).bind fun b3 =>
  (if b3 = true then
  (y81 M letter i).bind fun r4 =>
  (Rz.toU r4).bind fun u5 =>
  (U.asB u5).bind fun b6 =>
  some (!b6)
  else
  some b3).bind fun q7 =>
  (if q7 = false then
  (y81 M x_3 i).bind fun r8 =>
  (Rz.toU r8).bind fun u9 =>
  (U.asB u9).bind fun b10 =>
  (if b10 = true then
  (y81 M letter i).bind fun r11 =>
  (Rz.toU r11).bind fun u12 =>
  (U.asB u12).bind fun b13 =>
  some b13
  else
  some b10).bind fun q14 =>
  some q14
  else
  some q7).bind fun q15 =>
  (if q15 = true then
  some (.val (.c (.bool false)))
  else
  y43_1 M letter x_0 x_1 x_2 x_3 (IntKind.wrap .i64 (i + 1)))
  else
  some (.val (.c (.bool true)))) := by
  unfold y43_1 yrunM; rw [yrun_eq]; kernel_rfl
-- stutter/automata.errs
theorem y45_eq (M : YM) (a_0 : Int) (a_1 : U) (a_2 : U) (a_3 : U) (w_0 : U) (w_1 : U) : y45 M a_0 a_1 a_2 a_3 w_0 w_1 =
  (y36 M a_0 a_1 a_2 a_3).bind fun r1 =>
  (Rz.toU r1).bind fun u2 =>
  (U.asI .i64 u2).bind fun n3 =>
  (y84 M w_0 w_1).bind fun r4 =>
  (Rz.toU r4).bind fun u5 =>
  (U.asI .i64 u5).bind fun n6 =>
  (y52 M (Sx.fz (⟨true, 1, [.c (.int .i64 n3), .c (.int .i64 n6)]⟩ : Sx))).bind fun r7 =>
  (Rz.toU r7).bind fun u8 =>
  (U.asI .i64 u8).bind fun n9 =>
  some (.val (.c (.int .i64 n9))) := by
  unfold y45 yrunM; rw [yrun_eq]; kernel_rfl
-- stutter/stutterref13.StateAt
theorem y48_eq (M : YM) (l_0 : U) (l_1 : U) (vat : Int) : y48 M l_0 l_1 vat =
  (U.len l_0).bind fun k1 =>
  (if (decide (vat < ((k1 : Nat) : Int))) = true then
  (U.idx 1 l_0 vat).bind fun v2 =>
  (U.cell v2 0).bind fun c3 =>
  (U.asI .i64 c3).bind fun n4 =>
  some (.val (.c (.int .i64 n4)))
  else
  (U.len l_0).bind fun k5 =>
  (U.idx 1 l_1 (IntKind.wrap .i64 (vat - ((k5 : Nat) : Int)))).bind fun v6 =>
  (U.cell v6 0).bind fun c7 =>
  (U.asI .i64 c7).bind fun n8 =>
  some (.val (.c (.int .i64 n8)))) := by
  unfold y48 yrunM; rw [yrun_eq]; kernel_rfl
-- stutter/stutterbase.Holds
theorem y49_eq (M : YM) (l : U) (n : Int) : y49 M l n =
  y49_1 M l n 0 := by
  unfold y49 yrunM; rw [yrun_eq]; kernel_rfl
theorem y49_1_eq (M : YM) (l : U) (n : Int) (i : Int) : y49_1 M l n i =
  (U.len l).bind fun k1 =>
  (if (decide (i < ((k1 : Nat) : Int))) = true then
  (U.idx 1 l i).bind fun v2 =>
  (U.cell v2 0).bind fun c3 =>
  (U.asI .i64 c3).bind fun n4 =>
  (if (decide (n4 = n)) = true then
  some (.val (.c (.bool true)))
  else
  y49_1 M l n (IntKind.wrap .i64 (i + 1)))
  else
  some (.val (.c (.bool false)))) := by
  unfold y49_1 yrunM; rw [yrun_eq]; kernel_rfl
-- stutter/stutterref14.goes
theorem y50_eq (M : YM) (a_0 : Int) (a_1 : U) (a_2 : U) (a_3 : U) (x_0 : Int) (x_1 : Int) (x_2 : Int) (x_3 : Int) (letter : Int) : y50 M a_0 a_1 a_2 a_3 x_0 x_1 x_2 x_3 letter =
  y50_1 M letter a_0 a_1 a_2 a_3 x_0 x_1 x_2 x_3 0 := by
  unfold y50 yrunM; rw [yrun_eq]; kernel_rfl
theorem y50_1_eq (M : YM) (letter : Int) (a_0 : Int) (a_1 : U) (a_2 : U) (a_3 : U) (x_0 : Int) (x_1 : Int) (x_2 : Int) (x_3 : Int) (i : Int) : y50_1 M letter a_0 a_1 a_2 a_3 x_0 x_1 x_2 x_3 i =
  (U.len a_2).bind fun k1 =>
  (if (decide (i < ((k1 : Nat) : Int))) = true then
  (U.idx 4 a_2 i).bind fun v2 =>
  (U.cell v2 0).bind fun c3 =>
  (U.asI .i64 c3).bind fun n4 =>
  (if (decide (n4 = x_0)) = true then
  (U.idx 4 a_2 i).bind fun v5 =>
  (U.cell v5 1).bind fun c6 =>
  (U.asI .i64 c6).bind fun n7 =>
  some (decide (n7 = x_1))
  else
  some (decide (n4 = x_0))).bind fun q8 =>
  (if q8 = true then
  (U.idx 4 a_2 i).bind fun v9 =>
  (U.struct v9 0 ks0).bind fun f10 =>
  (y43 M ((f10 0).i) ((f10 1).i) ((f10 2).i) ((f10 3).i) letter).bind fun r11 =>
  (Rz.toU r11).bind fun u12 =>
  (U.asB u12).bind fun b13 =>
  some b13
  else
  some q8).bind fun q14 =>
  (if q14 = true then
  some (.val (.c (.bool true)))
  else
  y50_1 M letter a_0 a_1 a_2 a_3 x_0 x_1 x_2 x_3 (IntKind.wrap .i64 (i + 1)))
  else
  some (.val (.c (.bool false)))) := by
  unfold y50_1 yrunM; rw [yrun_eq]; kernel_rfl
-- stutter/stutterref13.After
theorem y51_eq (M : YM) (l_0 : U) (l_1 : U) (vat : Int) : y51 M l_0 l_1 vat =
  (U.len l_0).bind fun k1 =>
  (U.len l_1).bind fun k2 =>
  (if (decide ((IntKind.wrap .i64 (vat + 1)) < (IntKind.wrap .i64 (((k1 : Nat) : Int) + ((k2 : Nat) : Int))))) = true then
  some (.val (.c (.int .i64 (IntKind.wrap .i64 (vat + 1)))))
  else
  (U.len l_0).bind fun k3 =>
  some (.val (.c (.int .i64 ((k3 : Nat) : Int))))) := by
  unfold y51 yrunM; rw [yrun_eq]; kernel_rfl
-- cmp.Or[stutter/api.Errno]
theorem y52_eq (M : YM) (vals : U) : y52 M vals =
  (U.len vals).bind fun k1 =>
  y52_1 M 0 vals ((k1 : Nat) : Int) 0 := by
  unfold y52 yrunM; rw [yrun_eq]; kernel_rfl
theorem y52_1_eq (M : YM) (zero : Int) (x6 : U) (x7 : Int) (x8 : Int) : y52_1 M zero x6 x7 x8 =
  (if (decide (x8 < x7)) = true then
  (U.idx 1 x6 x8).bind fun v1 =>
  (U.cell v1 0).bind fun c2 =>
  (U.asI .i64 c2).bind fun n3 =>
  (if (!decide (n3 = zero)) = true then
  some (.val (.c (.int .i64 n3)))
  else
  y52_1 M zero x6 x7 (IntKind.wrap .i64 (x8 + 1)))
  else
  some (.val (.c (.int .i64 zero)))) := by
  unfold y52_1 yrunM; rw [yrun_eq]; kernel_rfl
-- stutter/automata.wrong
theorem y53_eq (M : YM) (is : Bool) (code : Int) : y53 M is code =
  (if is = true then
  some (.val (.c (.int .i64 code)))
  else
  some (.val (.c (.int .i64 0)))) := by
  unfold y53 yrunM; rw [yrun_eq]; kernel_rfl
-- slices.Concat[[]int,int]
theorem y54_eq (M : YM) (slices : U) : y54 M slices =
  (U.len slices).bind fun k1 =>
  y54_1 M slices 0 slices ((k1 : Nat) : Int) 0 := by
  unfold y54 yrunM; rw [yrun_eq]; kernel_rfl
theorem y54_1_eq (M : YM) (slices : U) (size : Int) (x9 : U) (x10 : Int) (x11 : Int) : y54_1 M slices size x9 x10 x11 =
  (if (decide (x11 < x10)) = true then
  (U.idx 1 x9 x11).bind fun v1 =>
  (U.cell v1 0).bind fun c2 =>
  (U.len c2).bind fun k3 =>
  (if (decide ((IntKind.wrap .i64 (size + ((k3 : Nat) : Int))) < 0)) = true then
  none
  else
  y54_2 M slices (IntKind.wrap .i64 (size + ((k3 : Nat) : Int))) x9 x10 x11)
  else
  (y89 M (.sl false ([])) size).bind fun r4 =>
  (Rz.asSl r4).bind fun s5 =>
  (U.len slices).bind fun k6 =>
  y54_3 M slices ((k6 : Nat) : Int) 0 s5) := by
  unfold y54_1 yrunM; rw [yrun_eq]; kernel_rfl
theorem y54_2_eq (M : YM) (slices : U) (size : Int) (x9 : U) (x10 : Int) (x11 : Int) : y54_2 M slices size x9 x10 x11 =
  y54_1 M slices size x9 x10 (IntKind.wrap .i64 (x11 + 1)) := by
  unfold y54_2 yrunM; rw [yrun_eq]; kernel_rfl
theorem y54_3_eq (M : YM) (x25 : U) (x26 : Int) (x27 : Int) (newslice : Sx) : y54_3 M x25 x26 x27 newslice =
  (if (decide (x27 < x26)) = true then
  (U.idx 1 x25 x27).bind fun v1 =>
  (U.cell v1 0).bind fun c2 =>
  (U.asL c2).bind fun l3 =>
  (Sx.app newslice 1 l3.2).bind fun s4 =>
  y54_3 M x25 x26 (IntKind.wrap .i64 (x27 + 1)) s4
  else
  (if scals newslice.es = true then
  some (.sl newslice)
  else
  none)) := by
  unfold y54_3 yrunM; rw [yrun_eq]; kernel_rfl
-- stutter/automata.spans
theorem y55_eq (M : YM) (n : Int) (vfrom : Int) (to : Int) : y55 M n vfrom to =
  (if (decide (vfrom ≤ n)) = true then
  some (decide (n ≤ to))
  else
  some (decide (vfrom ≤ n))).bind fun q1 =>
  some (.val (.c (.bool q1))) := by
  unfold y55 yrunM; rw [yrun_eq]; kernel_rfl
-- slices.Contains[[]int,int]
theorem y56_eq (M : YM) (s : U) (v : Int) : y56 M s v =
  (y90 M s v).bind fun r1 =>
  (Rz.toU r1).bind fun u2 =>
  (U.asI .i64 u2).bind fun n3 =>
  some (.val (.c (.bool (decide (0 ≤ n3))))) := by
  unfold y56 yrunM; rw [yrun_eq]; kernel_rfl
-- stutter/automata.letterAt
theorem y57_eq (M : YM) (w_0 : U) (w_1 : U) (i : Int) : y57 M w_0 w_1 i =
  (U.len w_0).bind fun k1 =>
  (if (decide (i < ((k1 : Nat) : Int))) = true then
  (U.idx 1 w_0 i).bind fun v2 =>
  (U.cell v2 0).bind fun c3 =>
  (U.asI .i64 c3).bind fun n4 =>
  some (.val (.c (.int .i64 n4)))
  else
  (U.len w_0).bind fun k5 =>
  (U.len w_1).bind fun k6 =>
  (if ((k6 : Nat) : Int) = 0 then
  none
  else
  (U.idx 1 w_1 (Int.tmod (IntKind.wrap .i64 (i - ((k5 : Nat) : Int))) ((k6 : Nat) : Int))).bind fun v7 =>
  (U.cell v7 0).bind fun c8 =>
  (U.asI .i64 c8).bind fun n9 =>
  some (.val (.c (.int .i64 n9))))) := by
  unfold y57 yrunM; rw [yrun_eq]; kernel_rfl
-- slices.ContainsFunc[[]stutter/api.AutomatonEdge,stutter/api.AutomatonEdge]
theorem y58_eq (M : YM) (s : U) (f : U) : y58 M s f =
  (y75 M s f).bind fun r1 =>
  (Rz.toU r1).bind fun u2 =>
  (U.asI .i64 u2).bind fun n3 =>
  some (.val (.c (.bool (decide (0 ≤ n3))))) := by
  unfold y58 yrunM; rw [yrun_eq]; kernel_rfl
-- stutter/automata.CheckRun$1
theorem y59_eq (M : YM) (x_0 : Int) (x_1 : Int) (x_2 : Int) (x_3 : Int) (x1 : U) (x2 : U) (x3 : U) : y59 M x_0 x_1 x_2 x_3 x1 x2 x3 =
  (U.asR x1).bind fun a1 =>
  (U.cell a1.1 a1.2).bind fun c2 =>
  (U.asI .i64 c2).bind fun n3 =>
  (if (decide (x_0 = n3)) = true then
  (U.asR x2).bind fun a4 =>
  (U.cell a4.1 a4.2).bind fun c5 =>
  (U.asI .i64 c5).bind fun n6 =>
  some (decide (x_1 = n6))
  else
  some (decide (x_0 = n3))).bind fun q7 =>
  (if q7 = true then
  (U.asR x3).bind fun a8 =>
  (U.cell a8.1 a8.2).bind fun c9 =>
  (U.asI .i64 c9).bind fun n10 =>
  (y60 M x_0 x_1 x_2 x_3 n10).bind fun r11 =>
  (Rz.toU r11).bind fun u12 =>
  (U.asB u12).bind fun b13 =>
  some b13
  else
  some q7).bind fun q14 =>
  some (.val (.c (.bool q14))) := by
  unfold y59 yrunM; rw [yrun_eq]; kernel_rfl
-- stutter/automata.reads
theorem y60_eq (M : YM) (x_0 : Int) (x_1 : Int) (x_2 : Int) (x_3 : Int) (letter : Int) : y60 M x_0 x_1 x_2 x_3 letter =
  (if (decide ((bitI .and .i64 letter x_2) = x_2)) = true then
  some (decide ((bitI .and .i64 letter x_3) = 0))
  else
  some (decide ((bitI .and .i64 letter x_2) = x_2))).bind fun q1 =>
  some (.val (.c (.bool q1))) := by
  unfold y60 yrunM; rw [yrun_eq]; kernel_rfl
-- slices.ContainsFunc[[]int,int]
theorem y61_eq (M : YM) (s : U) (f : U) : y61 M s f =
  (y91 M s f).bind fun r1 =>
  (Rz.toU r1).bind fun u2 =>
  (U.asI .i64 u2).bind fun n3 =>
  some (.val (.c (.bool (decide (0 ≤ n3))))) := by
  unfold y61 yrunM; rw [yrun_eq]; kernel_rfl
-- stutter/automata.CheckRun$2
theorem y62_eq (M : YM) (s : Int) (x1 : U) : y62 M s x1 =
  (U.asR x1).bind fun a1 =>
  (U.cell a1.1 a1.2).bind fun c2 =>
  (y56 M c2 s).bind fun r3 =>
  (Rz.toU r3).bind fun u4 =>
  (U.asB u4).bind fun b5 =>
  some (.val (.c (.bool b5))) := by
  unfold y62 yrunM; rw [yrun_eq]; kernel_rfl
-- stutter/automata.statesErr
theorem y63_eq (M : YM) (l : U) (states : Int) : y63 M l states =
  (U.len l).bind fun k1 =>
  y63_1 M l states l ((k1 : Nat) : Int) 0 := by
  unfold y63 yrunM; rw [yrun_eq]; kernel_rfl
theorem y63_1_eq (M : YM) (l : U) (states : Int) (x9 : U) (x10 : Int) (x11 : Int) : y63_1 M l states x9 x10 x11 =
  (if (decide (x11 < x10)) = true then
  (U.idx 1 x9 x11).bind fun v1 =>
  (U.cell v1 0).bind fun c2 =>
  (U.asI .i64 c2).bind fun n3 =>
  (y55 M n3 0 (IntKind.wrap .i64 (states - 1))).bind fun r4 =>
  (Rz.toU r4).bind fun u5 =>
  (U.asB u5).bind fun b6 =>
  (y53 M (!b6) 3).bind fun r7 =>
  (Rz.toU r7).bind fun u8 =>
  (U.asI .i64 u8).bind fun n9 =>
  (if (decide (0 < x11)) = true then
  (U.idx 1 l (if 0 > (IntKind.wrap .i64 (x11 - 1)) then 0 else (IntKind.wrap .i64 (x11 - 1)))).bind fun v10 =>
  (U.cell v10 0).bind fun c11 =>
  (U.asI .i64 c11).bind fun n12 =>
  some (decide (n3 ≤ n12))
  else
  some (decide (0 < x11))).bind fun q13 =>
  (y53 M q13 13).bind fun r14 =>
  (Rz.toU r14).bind fun u15 =>
  (U.asI .i64 u15).bind fun n16 =>
  (y52 M (Sx.fz (⟨true, 1, [.c (.int .i64 n9), .c (.int .i64 n16)]⟩ : Sx))).bind fun r17 =>
  (Rz.toU r17).bind fun u18 =>
  (U.asI .i64 u18).bind fun n19 =>
  (if (!decide (n19 = 0)) = true then
  some (.tup [.c (.int .i64 x11), .c (.int .i64 n19)])
  else
  y63_1 M l states x9 x10 (IntKind.wrap .i64 (x11 + 1)))
  else
  some (.tup [.c (.int .i64 0), .c (.int .i64 0)])) := by
  unfold y63_1 yrunM; rw [yrun_eq]; kernel_rfl
-- stutter/stutterref14.stateErr
theorem y65_eq (M : YM) (a_0 : Int) (a_1 : U) (a_2 : U) (a_3 : U) (l : U) (i : Int) : y65 M a_0 a_1 a_2 a_3 l i =
  (U.idx 1 l i).bind fun v1 =>
  (U.cell v1 0).bind fun c2 =>
  (U.asI .i64 c2).bind fun n3 =>
  (y41 M n3 0 (IntKind.wrap .i64 (a_0 - 1))).bind fun r4 =>
  (Rz.toU r4).bind fun u5 =>
  (U.asB u5).bind fun b6 =>
  (if (!b6) = true then
  some (.val (.c (.int .i64 3)))
  else
  (if (decide (0 < i)) = true then
  (U.idx 1 l i).bind fun v7 =>
  (U.idx 1 l (IntKind.wrap .i64 (i - 1))).bind fun v8 =>
  (U.cell v7 0).bind fun c9 =>
  (U.asI .i64 c9).bind fun n10 =>
  (U.cell v8 0).bind fun c11 =>
  (U.asI .i64 c11).bind fun n12 =>
  some (decide (n10 ≤ n12))
  else
  some (decide (0 < i))).bind fun q13 =>
  (if q13 = true then
  some (.val (.c (.int .i64 13)))
  else
  some (.val (.c (.int .i64 0))))) := by
  unfold y65 yrunM; rw [yrun_eq]; kernel_rfl
-- slices.IndexFunc[[]stutter/api.AutomatonEdge,stutter/api.AutomatonEdge]
theorem y75_eq (M : YM) (s : U) (f : U) : y75 M s f =
  (U.len s).bind fun k1 =>
  y75_1 M s f ((k1 : Nat) : Int) 0 := by
  unfold y75 yrunM; rw [yrun_eq]; kernel_rfl
theorem y75_1_eq (M : YM) (s : U) (f : U) (x7 : Int) (x8 : Int) : y75_1 M s f x7 x8 =
  (if (decide (x8 < x7)) = true then
  (U.idx 4 s x8).bind fun v1 =>
  (U.struct v1 0 ks0).bind fun f2 =>
  (U.asF f).bind fun g3 =>
  (ycall M g3.1 (g3.2.1 ++ [.st [.c (.int .i64 ((f2 0).i)), .c (.int .i64 ((f2 1).i)), .c (.int .i64 ((f2 2).i)), .c (.int .i64 ((f2 3).i))]] ++ g3.2.2)).bind fun r4 =>
  (Rz.toU r4).bind fun u5 =>
  (U.asB u5).bind fun b6 =>
  (if b6 = true then
  some (.val (.c (.int .i64 x8)))
  else
  y75_1 M s f x7 (IntKind.wrap .i64 (x8 + 1)))
  else
  some (.val (.c (.int .i64 (-1))))) := by
  unfold y75_1 yrunM; rw [yrun_eq]; kernel_rfl
-- stutter/stutterref13.Has
theorem y81_eq (M : YM) (letter : Int) (atom : Int) : y81 M letter atom =
  (if atom < 0 then
  none
  else
  some (.val (.c (.bool (decide ((Int.tmod (shI .shr .i64 letter atom) 2) = 1)))))) := by
  unfold y81 yrunM; rw [yrun_eq]; kernel_rfl
-- stutter/lasso.CheckWord
theorem y84_eq (M : YM) (w_0 : U) (w_1 : U) : y84 M w_0 w_1 =
  (U.len w_1).bind fun k1 =>
  (U.len w_0).bind fun k2 =>
  (U.len w_1).bind fun k3 =>
  (y108 M (decide (((k1 : Nat) : Int) = 0)) 1).bind fun r4 =>
  (Rz.toU r4).bind fun u5 =>
  (U.asI .i64 u5).bind fun n6 =>
  (y108 M (decide (60 < (IntKind.wrap .i64 (((k2 : Nat) : Int) + ((k3 : Nat) : Int))))) 2).bind fun r7 =>
  (Rz.toU r7).bind fun u8 =>
  (U.asI .i64 u8).bind fun n9 =>
  (y52 M (Sx.fz (⟨true, 1, [.c (.int .i64 n6), .c (.int .i64 n9)]⟩ : Sx))).bind fun r10 =>
  (Rz.toU r10).bind fun u11 =>
  (U.asI .i64 u11).bind fun n12 =>
  (if (!decide (n12 = 0)) = true then
  some (.val (.c (.int .i64 n12)))
  else
  (y61 M w_0 (.fn 106 [] [])).bind fun r13 =>
  (Rz.toU r13).bind fun u14 =>
  (U.asB u14).bind fun b15 =>
  (if b15 = false then
  (y61 M w_1 (.fn 106 [] [])).bind fun r16 =>
  (Rz.toU r16).bind fun u17 =>
  (U.asB u17).bind fun b18 =>
  some b18
  else
  some b15).bind fun q19 =>
  (y108 M q19 3).bind fun r20 =>
  (Rz.toU r20).bind fun u21 =>
  (U.asI .i64 u21).bind fun n22 =>
  some (.val (.c (.int .i64 n22)))) := by
  unfold y84 yrunM; rw [yrun_eq]; kernel_rfl
-- slices.Grow[[]int,int]
theorem y89_eq (M : YM) (s : U) (n : Int) : y89 M s n =
  (if (decide (n < 0)) = true then
  none
  else
  y89_1 M s n) := by
  unfold y89 yrunM; rw [yrun_eq]; kernel_rfl
theorem y89_1_eq (M : YM) (s : U) (n : Int) : y89_1 M s n =
  (if U.isNilSl s = true then
  (U.len s).bind fun k1 =>
  (if (decide (0 < (IntKind.wrap .i64 (n - (IntKind.wrap .i64 (0 - ((k1 : Nat) : Int))))))) = true then
  (if U.isNilSl s = true then
  (U.sub 1 s 0 (some 0)).bind fun v2 =>
  (if U.isNilSl v2 = true then
  (if 0 < (IntKind.wrap .i64 (n - (IntKind.wrap .i64 (0 - ((k1 : Nat) : Int))))) ∧ (IntKind.wrap .i64 (n - (IntKind.wrap .i64 (0 - ((k1 : Nat) : Int))))) ≤ 2 ^ 36 ∧ 1 = 1 then
  (U.len s).bind fun k3 =>
  (if 1 = 1 ∧ true = true then
  (subU 1 (List.replicate (IntKind.wrap .i64 (n - (IntKind.wrap .i64 (0 - ((k1 : Nat) : Int))))).toNat (.c (.int .i64 0))) 0 (some ((k3 : Nat) : Int))).bind fun l4 =>
  y89_2 M (Sx.win (⟨true, 1, List.replicate (IntKind.wrap .i64 (n - (IntKind.wrap .i64 (0 - ((k1 : Nat) : Int))))).toNat (.c (.int .i64 0))⟩ : Sx) ((0 : Int).toNat) l4.length)
  else
  none)
  else
  none)
  else
  none)
  else
  none)
  else
  y89_2b M s)
  else
  none) := by
  unfold y89_1 yrunM; rw [yrun_eq]; kernel_rfl
theorem y89_2_eq (M : YM) (s : Sx) : y89_2 M s =
  (if scals s.es = true then
  some (.sl s)
  else
  none) := by
  unfold y89_2 yrunM; rw [yrun_eq]; kernel_rfl
theorem y89_2b_eq (M : YM) (s : U) : y89_2b M s =
  ((if U.isNilSl s = true then some Sx.nil else none)).bind fun s1 =>
  (if scals s1.es = true then
  some (.sl s1)
  else
  none) := by
  unfold y89_2b yrunM; rw [yrun_eq]; kernel_rfl
-- slices.Index[[]int,int]
theorem y90_eq (M : YM) (s : U) (v : Int) : y90 M s v =
  (U.len s).bind fun k1 =>
  y90_1 M s v ((k1 : Nat) : Int) 0 := by
  unfold y90 yrunM; rw [yrun_eq]; kernel_rfl
theorem y90_1_eq (M : YM) (s : U) (v : Int) (x7 : Int) (x8 : Int) : y90_1 M s v x7 x8 =
  (if (decide (x8 < x7)) = true then
  (U.idx 1 s x8).bind fun v1 =>
  (U.cell v1 0).bind fun c2 =>
  (U.asI .i64 c2).bind fun n3 =>
  (if (decide (v = n3)) = true then
  some (.val (.c (.int .i64 x8)))
  else
  y90_1 M s v x7 (IntKind.wrap .i64 (x8 + 1)))
  else
  some (.val (.c (.int .i64 (-1))))) := by
  unfold y90_1 yrunM; rw [yrun_eq]; kernel_rfl
-- slices.IndexFunc[[]int,int]
theorem y91_eq (M : YM) (s : U) (f : U) : y91 M s f =
  (U.len s).bind fun k1 =>
  y91_1 M s f ((k1 : Nat) : Int) 0 := by
  unfold y91 yrunM; rw [yrun_eq]; kernel_rfl
theorem y91_1_eq (M : YM) (s : U) (f : U) (x7 : Int) (x8 : Int) : y91_1 M s f x7 x8 =
  (if (decide (x8 < x7)) = true then
  (U.idx 1 s x8).bind fun v1 =>
  (U.cell v1 0).bind fun c2 =>
  (U.asI .i64 c2).bind fun n3 =>
  (U.asF f).bind fun g4 =>
  (ycall M g4.1 (g4.2.1 ++ [.c (.int .i64 n3)] ++ g4.2.2)).bind fun r5 =>
  (Rz.toU r5).bind fun u6 =>
  (U.asB u6).bind fun b7 =>
  (if b7 = true then
  some (.val (.c (.int .i64 x8)))
  else
  y91_1 M s f x7 (IntKind.wrap .i64 (x8 + 1)))
  else
  some (.val (.c (.int .i64 (-1))))) := by
  unfold y91_1 yrunM; rw [yrun_eq]; kernel_rfl
-- stutter/lasso.CheckWord$1
theorem y106_eq (M : YM) (n : Int) : y106 M n =
  (y107 M n 0 4095).bind fun r1 =>
  (Rz.toU r1).bind fun u2 =>
  (U.asB u2).bind fun b3 =>
  some (.val (.c (.bool (!b3)))) := by
  unfold y106 yrunM; rw [yrun_eq]; kernel_rfl
-- stutter/lasso.spans
theorem y107_eq (M : YM) (n : Int) (vfrom : Int) (to : Int) : y107 M n vfrom to =
  (if (decide (vfrom ≤ n)) = true then
  some (decide (n ≤ to))
  else
  some (decide (vfrom ≤ n))).bind fun q1 =>
  some (.val (.c (.bool q1))) := by
  unfold y107 yrunM; rw [yrun_eq]; kernel_rfl
-- stutter/lasso.wrong
theorem y108_eq (M : YM) (is : Bool) (code : Int) : y108 M is code =
  (if is = true then
  some (.val (.c (.int .i64 code)))
  else
  some (.val (.c (.int .i64 0)))) := by
  unfold y108 yrunM; rw [yrun_eq]; kernel_rfl
end Go.Proofs.Ytglkhoamnmiolaa.R
