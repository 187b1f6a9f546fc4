import Derived.Test.YthjjbkiejkhjfaaRa
import Derived.Test.YthjjbkiejkhjfaaE9
import Derived.KernelRfl
namespace Go.Proofs.Ythjjbkiejkhjfaa.R
open Go Go.Proofs.Ythjjbkiejkhjfaa.Vm
set_option linter.unusedVariables false
set_option linter.unusedSimpArgs false
abbrev ks0 : List K0 := [(.int .i64), (.int .i64), (.int .i64), (.int .i64)]
abbrev ks1 : List K0 := [(.int .i64), .c, .c]
abbrev ks2 : List K0 := [(.int .i64), (.int .i64), (.int .i64)]
abbrev ks3 : List K0 := [.bool, .bool, .bool, .bool, .bool, .bool, .bool, .bool, .bool, .bool, .bool, .bool]
abbrev ks4 : List K0 := [.c, .c, .c, .c, .c, .c, .c, .c, .c, .c, .c, .c]
abbrev ks5 : List K0 := [.c, (.int .i64)]
abbrev ks6 : List K0 := [(.int .i64), (.int .i64), .c]
structure YM where
  ext : YCallT
def mdt : List (Nat × List RM) := [(3, [.sc]), (4, [.sc]), (5, [.sc]), (6, [.sc]), (7, [.sc]), (8, [.sc]), (9, [.sc]), (10, [.sc]), (11, [.sc]), (12, [.sc]), (13, [.va, .va]), (14, [.va]), (15, [.sls]), (16, [.sl]), (17, [.sc]), (18, [.sc]), (19, [.sc]), (20, [.sc]), (21, [.va, .va]), (22, [.sl]), (23, [.va, .va]), (24, [.va, .va]), (25, [.va, .va]), (26, [.sc]), (27, [.sc]), (28, [.sls]), (29, [.sls]), (30, [.va]), (31, [.va, .va]), (32, [.sls]), (33, [.va, .va]), (34, [.sc, .sc]), (35, [.sc]), (36, [.sl]), (37, [.sc]), (38, [.sc, .sc]), (39, [.sc]), (40, [.va, .va]), (41, [.sc]), (42, [.sls]), (43, [.sc]), (44, [.va, .va]), (45, [.sc]), (46, [.sc]), (47, [.va]), (48, [.sc]), (49, [.sc]), (50, [.sc]), (51, [.sc]), (52, [.va]), (53, [.va, .va]), (54, [.va]), (55, [.sc]), (56, [.sc]), (57, [.sls]), (58, [.sls]), (59, [.sls]), (60, [.sc]), (61, [.va]), (62, [.sls]), (63, [.sls]), (64, [.sc]), (65, [.sc]), (66, [.sc]), (67, [.va]), (68, [.sc]), (69, [.sc]), (70, [.sc, .sc]), (71, [.sls]), (72, [.sc]), (73, [.sc]), (74, [.sls]), (75, []), (76, [.va]), (77, [.sls]), (78, [.sc]), (79, [.sc]), (80, [.sc]), (81, [.va]), (82, [.sc]), (83, [.sc]), (84, [.sc]), (85, [.sc]), (86, [.va]), (87, [.va]), (88, [.sc]), (89, [.sls]), (90, [.sls]), (91, [.sc]), (92, [.sc]), (93, [.sc]), (94, [.va]), (95, [.sc]), (96, [.sc]), (97, [.sc]), (98, [.sc]), (99, [.sc]), (100, [.va]), (101, [.sc]), (102, [.sls]), (103, [.sc]), (104, [.sc]), (105, [.sc]), (106, [.va]), (107, [.sc]), (108, [.sc]), (109, [.sc]), (110, [.sc]), (111, [.sc, .sc])]
def md (f : FuncId) : List RM := (mdt.lookup f).getD []
def youts : List Nat := [10, 40, 44, 54, 61, 75, 76, 81, 87]
def yprog (f : FuncId) : Option RFunc := if youts.contains f then none else prog f
def yz (n : Nat) (l : List (Nat × Y)) : List Y := (List.range n).map fun p => (l.lookup p).getD .poison
noncomputable def yrunM (M : YM) : YRunT := Vm.yrun M.ext yprog md
noncomputable def ycall (M : YM) (f : FuncId) (us : List U) : YRs := yrunM M f 0 (us.map .val) []
-- stutter/stutterlaw19.ReduceVisible
noncomputable def y5 (M : YM) (g_0 : Int) (g_1 : U) (g_2 : U) (labels : U) : YRs := yrunM M 5 0 ([.val (.st [.c (.int .i64 g_0), g_1, g_2]), .val labels]) []
noncomputable def y5_1 (M : YM) (labels : U) (g_0 : Int) (g_1 : U) (g_2 : U) (l : U) (e : Int) (c : Int) : YRs := yrunM M 5 1 (yz 52 [(1, .val labels), (2, .loc [.u (.c (.int .i64 g_0)), .u g_1, .u g_2]), (5, .val l), (6, .val (.c (.int .i64 e))), (7, .val (.c (.int .i64 c)))]) []
-- stutter/stutterlaw19.few
noncomputable def y11 (M : YM) (g_0 : Int) (g_1 : U) (g_2 : U) : YRs := yrunM M 11 0 ([.val (.st [.c (.int .i64 g_0), g_1, g_2])]) []
-- stutter/stutterbase.OwnGraph
noncomputable def y14 (M : YM) (g_0 : Int) (g_1 : U) (g_2 : U) : YRs := yrunM M 14 0 ([.val (.st [.c (.int .i64 g_0), g_1, g_2])]) []
-- stutter/stutterbase.OwnInts
noncomputable def y15 (M : YM) (l : U) : YRs := yrunM M 15 0 ([.val l]) []
-- stutter/stutterref19.GraphErr
noncomputable def y17 (M : YM) (g_0 : Int) (g_1 : U) (g_2 : U) : YRs := yrunM M 17 0 ([.val (.st [.c (.int .i64 g_0), g_1, g_2])]) []
-- stutter/stutterref19.LabelsErr
noncomputable def y18 (M : YM) (g_0 : Int) (g_1 : U) (g_2 : U) (labels : U) : YRs := yrunM M 18 0 ([.val (.st [.c (.int .i64 g_0), g_1, g_2]), .val labels]) []
noncomputable def y18_1 (M : YM) (labels : U) (i : Int) : YRs := yrunM M 18 1 (yz 23 [(1, .val labels), (5, .val (.c (.int .i64 i)))]) []
-- stutter/stutterbase.EqualInts
noncomputable def y27 (M : YM) (a : U) (b : U) : YRs := yrunM M 27 0 ([.val a, .val b]) []
noncomputable def y27_1 (M : YM) (a : U) (b : U) (i : Int) : YRs := yrunM M 27 1 (yz 26 [(0, .val a), (1, .val b), (5, .val (.c (.int .i64 i)))]) []
-- stutter/reduce.VisibleIn
noncomputable def y31 (M : YM) (x_0 : Int) (x_1 : U) (x_2 : U) (labels : U) : YRs := yrunM M 31 0 ([.val (.st [.c (.int .i64 x_0), x_1, x_2]), .val labels]) []
noncomputable def y31_1 (M : YM) (x23_0 : Bool) (x23_1 : Bool) (x23_2 : Bool) (x23_3 : Bool) (x23_4 : Bool) (x23_5 : Bool) (x23_6 : Bool) (x23_7 : Bool) (x23_8 : Bool) (x23_9 : Bool) (x23_10 : Bool) (x23_11 : Bool) (x24 : Int) (out : Sx) : YRs := yrunM M 31 1 (yz 35 [(7, .h 10000), (23, .val (.st [.c (.bool x23_0), .c (.bool x23_1), .c (.bool x23_2), .c (.bool x23_3), .c (.bool x23_4), .c (.bool x23_5), .c (.bool x23_6), .c (.bool x23_7), .c (.bool x23_8), .c (.bool x23_9), .c (.bool x23_10), .c (.bool x23_11)])), (24, .val (.c (.int .i64 x24)))]) [.sl out]
noncomputable def y31_2 (M : YM) (x23_0 : Bool) (x23_1 : Bool) (x23_2 : Bool) (x23_3 : Bool) (x23_4 : Bool) (x23_5 : Bool) (x23_6 : Bool) (x23_7 : Bool) (x23_8 : Bool) (x23_9 : Bool) (x23_10 : Bool) (x23_11 : Bool) (x24 : Int) (out : Sx) : YRs := yrunM M 31 2 (yz 35 [(7, .h 10000), (23, .val (.st [.c (.bool x23_0), .c (.bool x23_1), .c (.bool x23_2), .c (.bool x23_3), .c (.bool x23_4), .c (.bool x23_5), .c (.bool x23_6), .c (.bool x23_7), .c (.bool x23_8), .c (.bool x23_9), .c (.bool x23_10), .c (.bool x23_11)])), (24, .val (.c (.int .i64 x24)))]) [.sl out]
-- stutter/stutterref19.Visible
noncomputable def y32 (M : YM) (g_0 : Int) (g_1 : U) (g_2 : U) (labels : U) : YRs := yrunM M 32 0 ([.val (.st [.c (.int .i64 g_0), g_1, g_2]), .val labels]) []
noncomputable def y32_1 (M : YM) (labels : U) (g_0 : Int) (g_1 : U) (g_2 : U) (a : Int) (out : Sx) : YRs := yrunM M 32 1 (yz 58 [(1, .val labels), (2, .loc [.u (.c (.int .i64 g_0)), .u g_1, .u g_2]), (5, .h 10000), (6, .val (.c (.int .i64 a)))]) [.sl out]
noncomputable def y32_2 (M : YM) (labels : U) (g_0 : Int) (g_1 : U) (g_2 : U) (a : Int) (is : Bool) (i : Int) (out : Sx) : YRs := yrunM M 32 2 (yz 58 [(1, .val labels), (2, .loc [.u (.c (.int .i64 g_0)), .u g_1, .u g_2]), (5, .h 10000), (6, .val (.c (.int .i64 a))), (7, .val (.c (.bool is))), (8, .val (.c (.int .i64 i)))]) [.sl out]
noncomputable def y32_3 (M : YM) (labels : U) (g_0 : Int) (g_1 : U) (g_2 : U) (a : Int) (out : Sx) : YRs := yrunM M 32 3 (yz 58 [(1, .val labels), (2, .loc [.u (.c (.int .i64 g_0)), .u g_1, .u g_2]), (5, .h 10000), (6, .val (.c (.int .i64 a)))]) [.sl out]
-- stutter/stutterbase.Between
noncomputable def y37 (M : YM) (n : Int) (low : Int) (high : Int) : YRs := yrunM M 37 0 ([.val (.c (.int .i64 n)), .val (.c (.int .i64 low)), .val (.c (.int .i64 high))]) []
-- stutter/reduce.graphErr
noncomputable def y48 (M : YM) (g_0 : Int) (g_1 : U) (g_2 : U) : YRs := yrunM M 48 0 ([.val (.st [.c (.int .i64 g_0), g_1, g_2])]) []
noncomputable def y48_1 (M : YM) (g_0 : Int) (g_1 : U) (g_2 : U) (x18 : U) (x19 : Int) (x20 : Int) : YRs := yrunM M 48 1 (yz 96 [(1, .loc [.u (.c (.int .i64 g_0)), .u g_1, .u g_2]), (18, .val x18), (19, .val (.c (.int .i64 x19))), (20, .val (.c (.int .i64 x20)))]) []
noncomputable def y48_2 (M : YM) (g_0 : Int) (g_1 : U) (g_2 : U) (x47 : U) (x48 : Int) (x49 : Int) : YRs := yrunM M 48 2 (yz 96 [(1, .loc [.u (.c (.int .i64 g_0)), .u g_1, .u g_2]), (47, .val x47), (48, .val (.c (.int .i64 x48))), (49, .val (.c (.int .i64 x49)))]) []
-- stutter/reduce.either
noncomputable def y49 (M : YM) (l : U) : YRs := yrunM M 49 0 ([.val l]) []
noncomputable def y49_1 (M : YM) (x5 : U) (x6 : Int) (x7 : Int) : YRs := yrunM M 49 1 (yz 15 [(5, .val x5), (6, .val (.c (.int .i64 x6))), (7, .val (.c (.int .i64 x7)))]) []
-- stutter/reduce.labelsErr
noncomputable def y50 (M : YM) (g_0 : Int) (g_1 : U) (g_2 : U) (labels : U) : YRs := yrunM M 50 0 ([.val (.st [.c (.int .i64 g_0), g_1, g_2]), .val labels]) []
-- stutter/stutterbase.IsGraph
noncomputable def y55 (M : YM) (g_0 : Int) (g_1 : U) (g_2 : U) : YRs := yrunM M 55 0 ([.val (.st [.c (.int .i64 g_0), g_1, g_2])]) []
noncomputable def y55_1 (M : YM) (g_0 : Int) (g_1 : U) (g_2 : U) (i : Int) : YRs := yrunM M 55 1 (yz 110 [(1, .loc [.u (.c (.int .i64 g_0)), .u g_1, .u g_2]), (3, .val (.c (.int .i64 i)))]) []
noncomputable def y55_2 (M : YM) (g_0 : Int) (g_1 : U) (g_2 : U) (i : Int) : YRs := yrunM M 55 2 (yz 110 [(1, .loc [.u (.c (.int .i64 g_0)), .u g_1, .u g_2]), (4, .val (.c (.int .i64 i)))]) []
-- (*stutter/reduce.graph).visible
noncomputable def y66 (M : YM) (g : U) (labels : U) : YRs := yrunM M 66 0 ([.val g, .val labels]) []
noncomputable def y66_1 (M : YM) (labels : U) (x4_0 : Bool) (x4_1 : Bool) (x4_2 : Bool) (x4_3 : Bool) (x4_4 : Bool) (x4_5 : Bool) (x4_6 : Bool) (x4_7 : Bool) (x4_8 : Bool) (x4_9 : Bool) (x4_10 : Bool) (x4_11 : Bool) (x12 : U) (x13 : Int) (x14 : Int) (out : U) : YRs := yrunM M 66 1 (yz 40 [(1, .val labels), (4, .loc [.u (.c (.bool x4_0)), .u (.c (.bool x4_1)), .u (.c (.bool x4_2)), .u (.c (.bool x4_3)), .u (.c (.bool x4_4)), .u (.c (.bool x4_5)), .u (.c (.bool x4_6)), .u (.c (.bool x4_7)), .u (.c (.bool x4_8)), .u (.c (.bool x4_9)), .u (.c (.bool x4_10)), .u (.c (.bool x4_11))]), (5, .h 10000), (12, .val x12), (13, .val (.c (.int .i64 x13))), (14, .val (.c (.int .i64 x14)))]) [.oa out]
-- stutter/reduce.unless
noncomputable def y68 (M : YM) (holds : Bool) (e : Int) : YRs := yrunM M 68 0 ([.val (.c (.bool holds)), .val (.c (.int .i64 e))]) []
-- stutter/reduce.in
noncomputable def y69 (M : YM) (n : Int) (lo : Int) (hi : Int) : YRs := yrunM M 69 0 ([.val (.c (.int .i64 n)), .val (.c (.int .i64 lo)), .val (.c (.int .i64 hi))]) []
-- stutter/reduce.steps
noncomputable def y78 (M : YM) (a_0 : Int) (a_1 : Int) (a_2 : Int) (b_0 : Int) (b_1 : Int) (b_2 : Int) : YRs := yrunM M 78 0 ([.val (.st [.c (.int .i64 a_0), .c (.int .i64 a_1), .c (.int .i64 a_2)]), .val (.st [.c (.int .i64 b_0), .c (.int .i64 b_1), .c (.int .i64 b_2)])]) []
-- slices.ContainsFunc[[]int,int]
noncomputable def y79 (M : YM) (s : U) (f : U) : YRs := yrunM M 79 0 ([.val s, .val f]) []
-- stutter/reduce.labelsErr$1
noncomputable def y80 (M : YM) (n : Int) : YRs := yrunM M 80 0 ([.val (.c (.int .i64 n))]) []
-- slices.IndexFunc[[]int,int]
noncomputable def y82 (M : YM) (s : U) (f : U) : YRs := yrunM M 82 0 ([.val s, .val f]) []
noncomputable def y82_1 (M : YM) (s : U) (f : U) (x7 : Int) (x8 : Int) : YRs := yrunM M 82 1 (yz 19 [(0, .val s), (1, .val f), (7, .val (.c (.int .i64 x7))), (8, .val (.c (.int .i64 x8)))]) []
-- stutter/stutterbase.FirstInts
noncomputable def y88 (M : YM) (a : U) (b : U) : YRs := yrunM M 88 0 ([.val a, .val b]) []
noncomputable def y88_1 (M : YM) (a : U) (b : U) (i : Int) : YRs := yrunM M 88 1 (yz 52 [(0, .val a), (1, .val b), (5, .val (.c (.int .i64 i)))]) []
-- stutter/stutterbase.edgeInts
noncomputable def y89 (M : YM) (x_0 : Int) (x_1 : Int) (x_2 : Int) : YRs := yrunM M 89 0 ([.val (.st [.c (.int .i64 x_0), .c (.int .i64 x_1), .c (.int .i64 x_2)])]) []
-- cmp.Or[int]
noncomputable def y97 (M : YM) (vals : U) : YRs := yrunM M 97 0 ([.val vals]) []
noncomputable def y97_1 (M : YM) (zero : Int) (x6 : U) (x7 : Int) (x8 : Int) : YRs := yrunM M 97 1 (yz 18 [(3, .val (.c (.int .i64 zero))), (6, .val x6), (7, .val (.c (.int .i64 x7))), (8, .val (.c (.int .i64 x8)))]) []
-- cmp.Compare[int]
noncomputable def y98 (M : YM) (x : Int) (y : Int) : YRs := yrunM M 98 0 ([.val (.c (.int .i64 x)), .val (.c (.int .i64 y))]) []
-- stutter/stutterbase.One
noncomputable def y107 (M : YM) (is : Bool) : YRs := yrunM M 107 0 ([.val (.c (.bool is))]) []
-- cmp.isNaN[int]
noncomputable def y110 (M : YM) (x : Int) : YRs := yrunM M 110 0 ([.val (.c (.int .i64 x))]) []
-- stutter/stutterlaw19.awake (outside)
noncomputable def y10 (M : YM) : YRs := yrunM M 10 0 [] []
-- stutter/reduce.open (outside)
noncomputable def y61 (M : YM) (g_0 : Int) (g_1 : U) (g_2 : U) : YRs := yrunM M 61 0 [.val (.st [.c (.int .i64 g_0), g_1, g_2])] []
-- stutter/stutterlaw19.ReduceVisible
theorem y5_eq (M : YM) (g_0 : Int) (g_1 : U) (g_2 : U) (labels : U) : y5 M g_0 g_1 g_2 labels =
  (y10 M).bind fun r1 =>
  (Rz.toU r1).bind fun u2 =>
  (U.asB u2).bind fun b3 =>
  (if (!b3) = true then
  some (.val (.c (.bool false)))
  else
  (y11 M g_0 g_1 g_2).bind fun r4 =>
  (Rz.toU r4).bind fun u5 =>
  (U.asB u5).bind fun b6 =>
  (if (!b6) = false then
  (U.len labels).bind fun k7 =>
  some (decide (62 < ((k7 : Nat) : Int)))
  else
  some (!b6)).bind fun q8 =>
  (if q8 = true then
  some (.val (.c (.bool true)))
  else
  (y14 M g_0 g_1 g_2).bind fun r9 =>
  (Rz.toU r9).bind fun u10 =>
  (U.exact u10 ks1).bind fun f11 =>
  (y15 M labels).bind fun r12 =>
  (Rz.asSl r12).bind fun s13 =>
  (y31 M ((f11 0).i) (f11 1) (f11 2) (Sx.fz s13)).bind fun r14 =>
  (Rz.asTup r14).bind fun t15 =>
  (t15[0]?).bind fun u16 =>
  (U.one u16).bind fun u17 =>
  (t15[1]?).bind fun u18 =>
  (U.asI .i64 u18).bind fun n19 =>
  (y17 M g_0 g_1 g_2).bind fun r20 =>
  (Rz.toU r20).bind fun u21 =>
  (U.asI .i64 u21).bind fun n22 =>
  (if (decide (n22 = 0)) = true then
  (y18 M g_0 g_1 g_2 labels).bind fun r23 =>
  (Rz.toU r23).bind fun u24 =>
  (U.asI .i64 u24).bind fun n25 =>
  y5_1 M labels g_0 g_1 g_2 u17 n19 n25
  else
  y5_1 M labels g_0 g_1 g_2 u17 n19 n22))) := by
  unfold y5 yrunM; rw [yrun_eq]; kernel_rfl
theorem y5_1_eq (M : YM) (labels : U) (g_0 : Int) (g_1 : U) (g_2 : U) (l : U) (e : Int) (c : Int) : y5_1 M labels g_0 g_1 g_2 l e c =
  (if (!decide (c = 0)) = true then
  (if (decide (e = c)) = true then
  (U.len l).bind fun k1 =>
  some (decide (((k1 : Nat) : Int) = 0))
  else
  some (decide (e = c))).bind fun q2 =>
  some (.val (.c (.bool q2)))
  else
  (if (decide (e = 0)) = true then
  (y32 M g_0 g_1 g_2 labels).bind fun r3 =>
  (Rz.asSl r3).bind fun s4 =>
  (y27 M l (Sx.fz s4)).bind fun r5 =>
  (Rz.toU r5).bind fun u6 =>
  (U.asB u6).bind fun b7 =>
  some b7
  else
  some (decide (e = 0))).bind fun q8 =>
  some (.val (.c (.bool q8)))) := by
  unfold y5_1 yrunM; rw [yrun_eq]; kernel_rfl
-- stutter/stutterlaw19.few
theorem y11_eq (M : YM) (g_0 : Int) (g_1 : U) (g_2 : U) : y11 M g_0 g_1 g_2 =
  (if (decide (g_0 ≤ 8)) = false then
  some (decide (60 < g_0))
  else
  some (decide (g_0 ≤ 8))).bind fun q1 =>
  (if q1 = true then
  (U.len g_1).bind fun k2 =>
  some (decide (((k2 : Nat) : Int) ≤ 70))
  else
  some q1).bind fun q3 =>
  (if q3 = true then
  (U.len g_2).bind fun k4 =>
  some (decide (((k4 : Nat) : Int) ≤ 30))
  else
  some q3).bind fun q5 =>
  some (.val (.c (.bool q5))) := by
  unfold y11 yrunM; rw [yrun_eq]; kernel_rfl
-- stutter/stutterbase.OwnGraph
theorem y14_eq (M : YM) (g_0 : Int) (g_1 : U) (g_2 : U) : y14 M g_0 g_1 g_2 =
  (y15 M g_1).bind fun r1 =>
  (Rz.asSl r1).bind fun s2 =>
  (U.asL g_2).bind fun l3 =>
  (Sx.app (⟨true, 3, []⟩ : Sx) 3 l3.2).bind fun s4 =>
  some (.val (.st [.c (.int .i64 g_0), Sx.fz s2, Sx.fz s4])) := by
  unfold y14 yrunM; rw [yrun_eq]; kernel_rfl
-- stutter/stutterbase.OwnInts
theorem y15_eq (M : YM) (l : U) : y15 M l =
  (U.asL l).bind fun l1 =>
  (Sx.app (⟨true, 1, []⟩ : Sx) 1 l1.2).bind fun s2 =>
  (if scals s2.es = true then
  some (.sl s2)
  else
  none) := by
  unfold y15 yrunM; rw [yrun_eq]; kernel_rfl
-- stutter/stutterref19.GraphErr
theorem y17_eq (M : YM) (g_0 : Int) (g_1 : U) (g_2 : U) : y17 M g_0 g_1 g_2 =
  (y55 M g_0 g_1 g_2).bind fun r1 =>
  (Rz.toU r1).bind fun u2 =>
  (U.asB u2).bind fun b3 =>
  (if (!b3) = true then
  some (.val (.c (.int .i64 5)))
  else
  (if (decide (60 < g_0)) = true then
  some (.val (.c (.int .i64 2)))
  else
  some (.val (.c (.int .i64 0))))) := by
  unfold y17 yrunM; rw [yrun_eq]; kernel_rfl
-- stutter/stutterref19.LabelsErr
theorem y18_eq (M : YM) (g_0 : Int) (g_1 : U) (g_2 : U) (labels : U) : y18 M g_0 g_1 g_2 labels =
  (U.len labels).bind fun k1 =>
  (if (!decide (((k1 : Nat) : Int) = g_0)) = true then
  some (.val (.c (.int .i64 6)))
  else
  y18_1 M labels 0) := by
  unfold y18 yrunM; rw [yrun_eq]; kernel_rfl
theorem y18_1_eq (M : YM) (labels : U) (i : Int) : y18_1 M labels i =
  (U.len labels).bind fun k1 =>
  (if (decide (i < ((k1 : Nat) : Int))) = true then
  (U.idx 1 labels i).bind fun v2 =>
  (U.cell v2 0).bind fun c3 =>
  (U.asI .i64 c3).bind fun n4 =>
  (y37 M n4 0 10000).bind fun r5 =>
  (Rz.toU r5).bind fun u6 =>
  (U.asB u6).bind fun b7 =>
  (if (!b7) = true then
  some (.val (.c (.int .i64 3)))
  else
  y18_1 M labels (IntKind.wrap .i64 (i + 1)))
  else
  some (.val (.c (.int .i64 0)))) := by
  unfold y18_1 yrunM; rw [yrun_eq]; kernel_rfl
-- stutter/stutterbase.EqualInts
theorem y27_eq (M : YM) (a : U) (b : U) : y27 M a b =
  (U.len a).bind fun k1 =>
  (U.len b).bind fun k2 =>
  (if (!decide (((k1 : Nat) : Int) = ((k2 : Nat) : Int))) = true then
  some (.val (.c (.bool false)))
  else
  y27_1 M a b 0) := by
  unfold y27 yrunM; rw [yrun_eq]; kernel_rfl
theorem y27_1_eq (M : YM) (a : U) (b : U) (i : Int) : y27_1 M a b i =
  (U.len a).bind fun k1 =>
  (if (decide (i < ((k1 : Nat) : Int))) = true then
  (U.idx 1 a i).bind fun v2 =>
  (U.idx 1 b i).bind fun v3 =>
  (U.cell v2 0).bind fun c4 =>
  (U.asI .i64 c4).bind fun n5 =>
  (U.cell v3 0).bind fun c6 =>
  (U.asI .i64 c6).bind fun n7 =>
  (if (!decide (n5 = n7)) = true then
  some (.val (.c (.bool false)))
  else
  y27_1 M a b (IntKind.wrap .i64 (i + 1)))
  else
  some (.val (.c (.bool true)))) := by
  unfold y27_1 yrunM; rw [yrun_eq]; kernel_rfl
-- stutter/reduce.VisibleIn
theorem y31_eq (M : YM) (x_0 : Int) (x_1 : U) (x_2 : U) (labels : U) : y31 M x_0 x_1 x_2 labels =
  (y48 M x_0 x_1 x_2).bind fun r1 =>
  (Rz.toU r1).bind fun u2 =>
  (U.asI .i64 u2).bind fun n3 =>
  (y50 M x_0 x_1 x_2 labels).bind fun r4 =>
  (Rz.toU r4).bind fun u5 =>
  (U.asI .i64 u5).bind fun n6 =>
  (y49 M (Sx.fz (⟨true, 1, [.c (.int .i64 n3), .c (.int .i64 n6)]⟩ : Sx))).bind fun r7 =>
  (Rz.toU r7).bind fun u8 =>
  (U.asI .i64 u8).bind fun n9 =>
  (if (!decide (n9 = 0)) = true then
  some (.tup [Sx.fz (⟨false, 0, []⟩ : Sx), .c (.int .i64 n9)])
  else
  (y61 M x_0 x_1 x_2).bind fun r10 =>
  (Rz.toU r10).bind fun u11 =>
  (U.one u11).bind fun u12 =>
  (y66 M u12 labels).bind fun r13 =>
  (Rz.toU r13).bind fun u14 =>
  (U.exact u14 ks3).bind fun f15 =>
  y31_1 M ((f15 0).b) ((f15 1).b) ((f15 2).b) ((f15 3).b) ((f15 4).b) ((f15 5).b) ((f15 6).b) ((f15 7).b) ((f15 8).b) ((f15 9).b) ((f15 10).b) ((f15 11).b) 0 (⟨false, 0, []⟩ : Sx)) := by
  unfold y31 yrunM; rw [yrun_eq]; kernel_rfl
theorem y31_1_eq (M : YM) (x23_0 : Bool) (x23_1 : Bool) (x23_2 : Bool) (x23_3 : Bool) (x23_4 : Bool) (x23_5 : Bool) (x23_6 : Bool) (x23_7 : Bool) (x23_8 : Bool) (x23_9 : Bool) (x23_10 : Bool) (x23_11 : Bool) (x24 : Int) (out : Sx) : y31_1 M x23_0 x23_1 x23_2 x23_3 x23_4 x23_5 x23_6 x23_7 x23_8 x23_9 x23_10 x23_11 x24 out =
  (if (decide (x24 < 12)) = true then
  (if 0 ≤ x24 ∧ x24 < ((12 : Nat) : Int) then
  ([.c (.bool x23_0), .c (.bool x23_1), .c (.bool x23_2), .c (.bool x23_3), .c (.bool x23_4), .c (.bool x23_5), .c (.bool x23_6), .c (.bool x23_7), .c (.bool x23_8), .c (.bool x23_9), .c (.bool x23_10), .c (.bool x23_11)][x24.toNat]?).bind fun c1 =>
  (U.asB c1).bind fun b2 =>
  (if b2 = true then
  (Sx.app out 1 ([.c (.int .i64 x24)])).bind fun s3 =>
  y31_2 M x23_0 x23_1 x23_2 x23_3 x23_4 x23_5 x23_6 x23_7 x23_8 x23_9 x23_10 x23_11 x24 s3
  else
  y31_2 M x23_0 x23_1 x23_2 x23_3 x23_4 x23_5 x23_6 x23_7 x23_8 x23_9 x23_10 x23_11 x24 out)
  else
  none)
  else
  some (.tup [Sx.fz out, .c (.int .i64 0)])) := by
  unfold y31_1 yrunM; rw [yrun_eq]; kernel_rfl
theorem y31_2_eq (M : YM) (x23_0 : Bool) (x23_1 : Bool) (x23_2 : Bool) (x23_3 : Bool) (x23_4 : Bool) (x23_5 : Bool) (x23_6 : Bool) (x23_7 : Bool) (x23_8 : Bool) (x23_9 : Bool) (x23_10 : Bool) (x23_11 : Bool) (x24 : Int) (out : Sx) : y31_2 M x23_0 x23_1 x23_2 x23_3 x23_4 x23_5 x23_6 x23_7 x23_8 x23_9 x23_10 x23_11 x24 out =
  y31_1 M x23_0 x23_1 x23_2 x23_3 x23_4 x23_5 x23_6 x23_7 x23_8 x23_9 x23_10 x23_11 (IntKind.wrap .i64 (x24 + 1)) out := by
  unfold y31_2 yrunM; rw [yrun_eq]; kernel_rfl
-- stutter/stutterref19.Visible
theorem y32_eq (M : YM) (g_0 : Int) (g_1 : U) (g_2 : U) (labels : U) : y32 M g_0 g_1 g_2 labels =
  y32_1 M labels g_0 g_1 g_2 0 (⟨false, 0, []⟩ : Sx) := by
  unfold y32 yrunM; rw [yrun_eq]; kernel_rfl
theorem y32_1_eq (M : YM) (labels : U) (g_0 : Int) (g_1 : U) (g_2 : U) (a : Int) (out : Sx) : y32_1 M labels g_0 g_1 g_2 a out =
  (if (decide (a < 12)) = true then
  y32_2 M labels g_0 g_1 g_2 a false 0 out
  else
  (if scals out.es = true then
  some (.sl out)
  else
  none)) := by
  unfold y32_1 yrunM; rw [yrun_eq]; kernel_rfl
theorem y32_2_eq (M : YM) (labels : U) (g_0 : Int) (g_1 : U) (g_2 : U) (a : Int) (is : Bool) (i : Int) (out : Sx) : y32_2 M labels g_0 g_1 g_2 a is i out =
  (U.len g_2).bind fun k1 =>
  (if (decide (i < ((k1 : Nat) : Int))) = true then
  (if is = false then
  (U.idx 3 g_2 i).bind fun v2 =>
  (U.cell v2 2).bind fun c3 =>
  (U.asI .i64 c3).bind fun n4 =>
  (if (decide (n4 = a)) = true then
  (U.idx 3 g_2 i).bind fun v5 =>
  (U.idx 3 g_2 i).bind fun v6 =>
  (U.cell v5 0).bind fun c7 =>
  (U.asI .i64 c7).bind fun n8 =>
  (U.idx 1 labels n8).bind fun v9 =>
  (U.cell v9 0).bind fun c10 =>
  (U.asI .i64 c10).bind fun n11 =>
  (U.cell v6 1).bind fun c12 =>
  (U.asI .i64 c12).bind fun n13 =>
  (U.idx 1 labels n13).bind fun v14 =>
  (U.cell v14 0).bind fun c15 =>
  (U.asI .i64 c15).bind fun n16 =>
  some (!decide (n11 = n16))
  else
  some (decide (n4 = a))).bind fun q17 =>
  some q17
  else
  some is).bind fun q18 =>
  y32_2 M labels g_0 g_1 g_2 a q18 (IntKind.wrap .i64 (i + 1)) out
  else
  (if is = true then
  (Sx.app out 1 ([.c (.int .i64 a)])).bind fun s19 =>
  y32_3 M labels g_0 g_1 g_2 a s19
  else
  y32_3 M labels g_0 g_1 g_2 a out)) := by
  unfold y32_2 yrunM; rw [yrun_eq]; kernel_rfl
theorem y32_3_eq (M : YM) (labels : U) (g_0 : Int) (g_1 : U) (g_2 : U) (a : Int) (out : Sx) : y32_3 M labels g_0 g_1 g_2 a out =
  y32_1 M labels g_0 g_1 g_2 (IntKind.wrap .i64 (a + 1)) out := by
  unfold y32_3 yrunM; rw [yrun_eq]; kernel_rfl
-- stutter/stutterbase.Between
theorem y37_eq (M : YM) (n : Int) (low : Int) (high : Int) : y37 M n low high =
  (if (decide (low ≤ n)) = true then
  some (decide (n ≤ high))
  else
  some (decide (low ≤ n))).bind fun q1 =>
  some (.val (.c (.bool q1))) := by
  unfold y37 yrunM; rw [yrun_eq]; kernel_rfl
-- stutter/reduce.graphErr
theorem y48_eq (M : YM) (g_0 : Int) (g_1 : U) (g_2 : U) : y48 M g_0 g_1 g_2 =
  (y69 M g_0 0 400).bind fun r1 =>
  (Rz.toU r1).bind fun u2 =>
  (U.asB u2).bind fun b3 =>
  (if (!b3) = false then
  (U.len g_2).bind fun k4 =>
  some (decide (2000 < ((k4 : Nat) : Int)))
  else
  some (!b3)).bind fun q5 =>
  (if q5 = true then
  some (.val (.c (.int .i64 5)))
  else
  (U.len g_1).bind fun k6 =>
  y48_1 M g_0 g_1 g_2 g_1 ((k6 : Nat) : Int) 0) := by
  unfold y48 yrunM; rw [yrun_eq]; kernel_rfl
theorem y48_1_eq (M : YM) (g_0 : Int) (g_1 : U) (g_2 : U) (x18 : U) (x19 : Int) (x20 : Int) : y48_1 M g_0 g_1 g_2 x18 x19 x20 =
  (if (decide (x20 < x19)) = true then
  (U.idx 1 x18 x20).bind fun v1 =>
  (U.cell v1 0).bind fun c2 =>
  (U.asI .i64 c2).bind fun n3 =>
  (y69 M n3 0 (IntKind.wrap .i64 (g_0 - 1))).bind fun r4 =>
  (Rz.toU r4).bind fun u5 =>
  (U.asB u5).bind fun b6 =>
  (if (!b6) = false then
  (if (decide (0 < x20)) = true then
  (U.idx 1 g_1 (IntKind.wrap .i64 (x20 - 1))).bind fun v7 =>
  (U.cell v7 0).bind fun c8 =>
  (U.asI .i64 c8).bind fun n9 =>
  some (decide (n3 ≤ n9))
  else
  some (decide (0 < x20))).bind fun q10 =>
  some q10
  else
  some (!b6)).bind fun q11 =>
  (if q11 = true then
  some (.val (.c (.int .i64 5)))
  else
  y48_1 M g_0 g_1 g_2 x18 x19 (IntKind.wrap .i64 (x20 + 1)))
  else
  (U.len g_2).bind fun k12 =>
  y48_2 M g_0 g_1 g_2 g_2 ((k12 : Nat) : Int) 0) := by
  unfold y48_1 yrunM; rw [yrun_eq]; kernel_rfl
theorem y48_2_eq (M : YM) (g_0 : Int) (g_1 : U) (g_2 : U) (x47 : U) (x48 : Int) (x49 : Int) : y48_2 M g_0 g_1 g_2 x47 x48 x49 =
  (if (decide (x49 < x48)) = true then
  (U.idx 3 x47 x49).bind fun v1 =>
  (U.struct v1 0 ks2).bind fun f2 =>
  (y69 M ((f2 0).i) 0 (IntKind.wrap .i64 (g_0 - 1))).bind fun r3 =>
  (Rz.toU r3).bind fun u4 =>
  (U.asB u4).bind fun b5 =>
  (if (!b5) = false then
  (y69 M ((f2 1).i) 0 (IntKind.wrap .i64 (g_0 - 1))).bind fun r6 =>
  (Rz.toU r6).bind fun u7 =>
  (U.asB u7).bind fun b8 =>
  some (!b8)
  else
  some (!b5)).bind fun q9 =>
  (if q9 = false then
  (y69 M ((f2 2).i) 0 11).bind fun r10 =>
  (Rz.toU r10).bind fun u11 =>
  (U.asB u11).bind fun b12 =>
  some (!b12)
  else
  some q9).bind fun q13 =>
  (if q13 = false then
  (if (decide (0 < x49)) = true then
  (U.idx 3 g_2 (IntKind.wrap .i64 (x49 - 1))).bind fun v14 =>
  (U.struct v14 0 ks2).bind fun f15 =>
  (y78 M ((f15 0).i) ((f15 1).i) ((f15 2).i) ((f2 0).i) ((f2 1).i) ((f2 2).i)).bind fun r16 =>
  (Rz.toU r16).bind fun u17 =>
  (U.asI .i64 u17).bind fun n18 =>
  some (decide (0 ≤ n18))
  else
  some (decide (0 < x49))).bind fun q19 =>
  some q19
  else
  some q13).bind fun q20 =>
  (if q20 = true then
  some (.val (.c (.int .i64 5)))
  else
  y48_2 M g_0 g_1 g_2 x47 x48 (IntKind.wrap .i64 (x49 + 1)))
  else
  (y68 M (decide (g_0 ≤ 60)) 2).bind fun r21 =>
  (Rz.toU r21).bind fun u22 =>
  (U.asI .i64 u22).bind fun n23 =>
  some (.val (.c (.int .i64 n23)))) := by
  unfold y48_2 yrunM; rw [yrun_eq]; kernel_rfl
-- stutter/reduce.either
theorem y49_eq (M : YM) (l : U) : y49 M l =
  (U.len l).bind fun k1 =>
  y49_1 M l ((k1 : Nat) : Int) 0 := by
  unfold y49 yrunM; rw [yrun_eq]; kernel_rfl
theorem y49_1_eq (M : YM) (x5 : U) (x6 : Int) (x7 : Int) : y49_1 M x5 x6 x7 =
  (if (decide (x7 < x6)) = true then
  (U.idx 1 x5 x7).bind fun v1 =>
  (U.cell v1 0).bind fun c2 =>
  (U.asI .i64 c2).bind fun n3 =>
  (if (!decide (n3 = 0)) = true then
  some (.val (.c (.int .i64 n3)))
  else
  y49_1 M x5 x6 (IntKind.wrap .i64 (x7 + 1)))
  else
  some (.val (.c (.int .i64 0)))) := by
  unfold y49_1 yrunM; rw [yrun_eq]; kernel_rfl
-- stutter/reduce.labelsErr
theorem y50_eq (M : YM) (g_0 : Int) (g_1 : U) (g_2 : U) (labels : U) : y50 M g_0 g_1 g_2 labels =
  (y79 M labels (.fn 80 [] [])).bind fun r1 =>
  (Rz.toU r1).bind fun u2 =>
  (U.asB u2).bind fun b3 =>
  (U.len labels).bind fun k4 =>
  (y68 M (decide (((k4 : Nat) : Int) = g_0)) 6).bind fun r5 =>
  (Rz.toU r5).bind fun u6 =>
  (U.asI .i64 u6).bind fun n7 =>
  (y68 M (!b3) 3).bind fun r8 =>
  (Rz.toU r8).bind fun u9 =>
  (U.asI .i64 u9).bind fun n10 =>
  (y49 M (Sx.fz (⟨true, 1, [.c (.int .i64 n7), .c (.int .i64 n10)]⟩ : Sx))).bind fun r11 =>
  (Rz.toU r11).bind fun u12 =>
  (U.asI .i64 u12).bind fun n13 =>
  some (.val (.c (.int .i64 n13))) := by
  unfold y50 yrunM; rw [yrun_eq]; kernel_rfl
-- stutter/stutterbase.IsGraph
theorem y55_eq (M : YM) (g_0 : Int) (g_1 : U) (g_2 : U) : y55 M g_0 g_1 g_2 =
  (y37 M g_0 0 400).bind fun r1 =>
  (Rz.toU r1).bind fun u2 =>
  (U.asB u2).bind fun b3 =>
  (if (!b3) = false then
  (U.len g_1).bind fun k4 =>
  some (decide (g_0 < ((k4 : Nat) : Int)))
  else
  some (!b3)).bind fun q5 =>
  (if q5 = false then
  (U.len g_2).bind fun k6 =>
  some (decide (2000 < ((k6 : Nat) : Int)))
  else
  some q5).bind fun q7 =>
  (if q7 = true then
  some (.val (.c (.bool false)))
  else
  y55_1 M g_0 g_1 g_2 0) := by
  unfold y55 yrunM; rw [yrun_eq]; kernel_rfl
theorem y55_1_eq (M : YM) (g_0 : Int) (g_1 : U) (g_2 : U) (i : Int) : y55_1 M g_0 g_1 g_2 i =
  (U.len g_1).bind fun k1 =>
  (if (decide (i < ((k1 : Nat) : Int))) = true then
  (U.idx 1 g_1 i).bind fun v2 =>
  (U.cell v2 0).bind fun c3 =>
  (U.asI .i64 c3).bind fun n4 =>
  (y37 M n4 0 (IntKind.wrap .i64 (g_0 - 1))).bind fun r5 =>
  (Rz.toU r5).bind fun u6 =>
  (U.asB u6).bind fun b7 =>
  (if (!b7) = false then
  (if (decide (0 < i)) = true then
  (U.idx 1 g_1 i).bind fun v8 =>
  (U.idx 1 g_1 (IntKind.wrap .i64 (i - 1))).bind fun v9 =>
  (U.cell v8 0).bind fun c10 =>
  (U.asI .i64 c10).bind fun n11 =>
  (U.cell v9 0).bind fun c12 =>
  (U.asI .i64 c12).bind fun n13 =>
  some (decide (n11 ≤ n13))
  else
  some (decide (0 < i))).bind fun q14 =>
  some q14
  else
  some (!b7)).bind fun q15 =>
  (if q15 = true then
  some (.val (.c (.bool false)))
  else
  y55_1 M g_0 g_1 g_2 (IntKind.wrap .i64 (i + 1)))
  else
  y55_2 M g_0 g_1 g_2 0) := by
  unfold y55_1 yrunM; rw [yrun_eq]; kernel_rfl
theorem y55_2_eq (M : YM) (g_0 : Int) (g_1 : U) (g_2 : U) (i : Int) : y55_2 M g_0 g_1 g_2 i =
  (U.len g_2).bind fun k1 =>
  (if (decide (i < ((k1 : Nat) : Int))) = true then
  (U.idx 3 g_2 i).bind fun v2 =>
  (U.struct v2 0 ks2).bind fun f3 =>
  (y37 M ((f3 0).i) 0 (IntKind.wrap .i64 (g_0 - 1))).bind fun r4 =>
  (Rz.toU r4).bind fun u5 =>
  (U.asB u5).bind fun b6 =>
  (if (!b6) = false then
  (y37 M ((f3 1).i) 0 (IntKind.wrap .i64 (g_0 - 1))).bind fun r7 =>
  (Rz.toU r7).bind fun u8 =>
  (U.asB u8).bind fun b9 =>
  some (!b9)
  else
  some (!b6)).bind fun q10 =>
  (if q10 = false then
  (y37 M ((f3 2).i) 0 11).bind fun r11 =>
  (Rz.toU r11).bind fun u12 =>
  (U.asB u12).bind fun b13 =>
  some (!b13)
  else
  some q10).bind fun q14 =>
  (if q14 = false then
  (if (decide (0 < i)) = true then
  (U.idx 3 g_2 (IntKind.wrap .i64 (i - 1))).bind fun v15 =>
  (U.struct v15 0 ks2).bind fun f16 =>
  (y89 M ((f16 0).i) ((f16 1).i) ((f16 2).i)).bind fun r17 =>
  (Rz.asSl r17).bind fun s18 =>
  (y89 M ((f3 0).i) ((f3 1).i) ((f3 2).i)).bind fun r19 =>
  (Rz.asSl r19).bind fun s20 =>
  (y88 M (Sx.fz s18) (Sx.fz s20)).bind fun r21 =>
  (Rz.toU r21).bind fun u22 =>
  (U.asI .i64 u22).bind fun n23 =>
  some (decide (0 ≤ n23))
  else
  some (decide (0 < i))).bind fun q24 =>
  some q24
  else
  some q14).bind fun q25 =>
  (if q25 = true then
  some (.val (.c (.bool false)))
  else
  y55_2 M g_0 g_1 g_2 (IntKind.wrap .i64 (i + 1)))
  else
  some (.val (.c (.bool true)))) := by
  unfold y55_2 yrunM; rw [yrun_eq]; kernel_rfl
-- (*stutter/reduce.graph).visible
theorem y66_eq (M : YM) (g : U) (labels : U) : y66 M g labels =
  (U.asR g).bind fun a1 =>
  (U.cell a1.1 (a1.2 + 2)).bind fun c2 =>
  (U.len c2).bind fun k3 =>
  y66_1 M labels false false false false false false false false false false false false c2 ((k3 : Nat) : Int) 0 (.st [.c (.bool false), .c (.bool false), .c (.bool false), .c (.bool false), .c (.bool false), .c (.bool false), .c (.bool false), .c (.bool false), .c (.bool false), .c (.bool false), .c (.bool false), .c (.bool false)]) := by
  unfold y66 yrunM; rw [yrun_eq]; kernel_rfl
theorem y66_1_eq (M : YM) (labels : U) (x4_0 : Bool) (x4_1 : Bool) (x4_2 : Bool) (x4_3 : Bool) (x4_4 : Bool) (x4_5 : Bool) (x4_6 : Bool) (x4_7 : Bool) (x4_8 : Bool) (x4_9 : Bool) (x4_10 : Bool) (x4_11 : Bool) (x12 : U) (x13 : Int) (x14 : Int) (out : U) : y66_1 M labels x4_0 x4_1 x4_2 x4_3 x4_4 x4_5 x4_6 x4_7 x4_8 x4_9 x4_10 x4_11 x12 x13 x14 out =
  (if (decide (x14 < x13)) = true then
  (U.idx 3 x12 x14).bind fun v1 =>
  (U.struct v1 0 ks2).bind fun f2 =>
  (if 0 ≤ ((f2 2).i) ∧ ((f2 2).i) < ((12 : Nat) : Int) then
  (U.cell out (0 + ((f2 2).i).toNat * 1)).bind fun c3 =>
  (U.asB c3).bind fun b4 =>
  (if b4 = false then
  (U.idx 1 labels ((f2 0).i)).bind fun v5 =>
  (U.idx 1 labels ((f2 1).i)).bind fun v6 =>
  (U.cell v5 0).bind fun c7 =>
  (U.asI .i64 c7).bind fun n8 =>
  (U.cell v6 0).bind fun c9 =>
  (U.asI .i64 c9).bind fun n10 =>
  some (!decide (n8 = n10))
  else
  some b4).bind fun q11 =>
  (if 0 ≤ ((f2 2).i) ∧ ((f2 2).i) < ((12 : Nat) : Int) then
  (U.setc out (0 + ((f2 2).i).toNat * 1) (.c (.bool q11))).bind fun v12 =>
  y66_1 M labels x4_0 x4_1 x4_2 x4_3 x4_4 x4_5 x4_6 x4_7 x4_8 x4_9 x4_10 x4_11 x12 x13 (IntKind.wrap .i64 (x14 + 1)) v12
  else
  none)
  else
  none)
  else
  (U.struct out 0 ks3).bind fun f13 =>
  some (.val (.st [.c (.bool ((f13 0).b)), .c (.bool ((f13 1).b)), .c (.bool ((f13 2).b)), .c (.bool ((f13 3).b)), .c (.bool ((f13 4).b)), .c (.bool ((f13 5).b)), .c (.bool ((f13 6).b)), .c (.bool ((f13 7).b)), .c (.bool ((f13 8).b)), .c (.bool ((f13 9).b)), .c (.bool ((f13 10).b)), .c (.bool ((f13 11).b))]))) := by
  unfold y66_1 yrunM; rw [yrun_eq]; kernel_rfl
-- stutter/reduce.unless
theorem y68_eq (M : YM) (holds : Bool) (e : Int) : y68 M holds e =
  (if holds = true then
  some (.val (.c (.int .i64 0)))
  else
  some (.val (.c (.int .i64 e)))) := by
  unfold y68 yrunM; rw [yrun_eq]; kernel_rfl
-- stutter/reduce.in
theorem y69_eq (M : YM) (n : Int) (lo : Int) (hi : Int) : y69 M n lo hi =
  (if (decide (lo ≤ n)) = true then
  some (decide (n ≤ hi))
  else
  some (decide (lo ≤ n))).bind fun q1 =>
  some (.val (.c (.bool q1))) := by
  unfold y69 yrunM; rw [yrun_eq]; kernel_rfl
-- stutter/reduce.steps
theorem y78_eq (M : YM) (a_0 : Int) (a_1 : Int) (a_2 : Int) (b_0 : Int) (b_1 : Int) (b_2 : Int) : y78 M a_0 a_1 a_2 b_0 b_1 b_2 =
  (y98 M a_0 b_0).bind fun r1 =>
  (Rz.toU r1).bind fun u2 =>
  (U.asI .i64 u2).bind fun n3 =>
  (y98 M a_1 b_1).bind fun r4 =>
  (Rz.toU r4).bind fun u5 =>
  (U.asI .i64 u5).bind fun n6 =>
  (y98 M a_2 b_2).bind fun r7 =>
  (Rz.toU r7).bind fun u8 =>
  (U.asI .i64 u8).bind fun n9 =>
  (y97 M (Sx.fz (⟨true, 1, [.c (.int .i64 n3), .c (.int .i64 n6), .c (.int .i64 n9)]⟩ : Sx))).bind fun r10 =>
  (Rz.toU r10).bind fun u11 =>
  (U.asI .i64 u11).bind fun n12 =>
  some (.val (.c (.int .i64 n12))) := by
  unfold y78 yrunM; rw [yrun_eq]; kernel_rfl
-- slices.ContainsFunc[[]int,int]
theorem y79_eq (M : YM) (s : U) (f : U) : y79 M s f =
  (y82 M s f).bind fun r1 =>
  (Rz.toU r1).bind fun u2 =>
  (U.asI .i64 u2).bind fun n3 =>
  some (.val (.c (.bool (decide (0 ≤ n3))))) := by
  unfold y79 yrunM; rw [yrun_eq]; kernel_rfl
-- stutter/reduce.labelsErr$1
theorem y80_eq (M : YM) (n : Int) : y80 M n =
  (y69 M n 0 10000).bind fun r1 =>
  (Rz.toU r1).bind fun u2 =>
  (U.asB u2).bind fun b3 =>
  some (.val (.c (.bool (!b3)))) := by
  unfold y80 yrunM; rw [yrun_eq]; kernel_rfl
-- slices.IndexFunc[[]int,int]
theorem y82_eq (M : YM) (s : U) (f : U) : y82 M s f =
  (U.len s).bind fun k1 =>
  y82_1 M s f ((k1 : Nat) : Int) 0 := by
  unfold y82 yrunM; rw [yrun_eq]; kernel_rfl
theorem y82_1_eq (M : YM) (s : U) (f : U) (x7 : Int) (x8 : Int) : y82_1 M s f x7 x8 =
  (if (decide (x8 < x7)) = true then
  (U.idx 1 s x8).bind fun v1 =>
  (U.cell v1 0).bind fun c2 =>
  (U.asI .i64 c2).bind fun n3 =>
  (U.asF f).bind fun g4 =>
  (ycall M g4.1 (g4.2.1 ++ [.c (.int .i64 n3)] ++ g4.2.2)).bind fun r5 =>
  (Rz.toU r5).bind fun u6 =>
  (U.asB u6).bind fun b7 =>
  (if b7 = true then
  some (.val (.c (.int .i64 x8)))
  else
  y82_1 M s f x7 (IntKind.wrap .i64 (x8 + 1)))
  else
  some (.val (.c (.int .i64 (-1))))) := by
  unfold y82_1 yrunM; rw [yrun_eq]; kernel_rfl
-- stutter/stutterbase.FirstInts
theorem y88_eq (M : YM) (a : U) (b : U) : y88 M a b =
  y88_1 M a b 0 := by
  unfold y88 yrunM; rw [yrun_eq]; kernel_rfl
theorem y88_1_eq (M : YM) (a : U) (b : U) (i : Int) : y88_1 M a b i =
  (U.len a).bind fun k1 =>
  (if (decide (i < ((k1 : Nat) : Int))) = true then
  (U.len b).bind fun k2 =>
  some (decide (i < ((k2 : Nat) : Int)))
  else
  some (decide (i < ((k1 : Nat) : Int)))).bind fun q3 =>
  (if q3 = true then
  (U.idx 1 a i).bind fun v4 =>
  (U.idx 1 b i).bind fun v5 =>
  (U.cell v4 0).bind fun c6 =>
  (U.asI .i64 c6).bind fun n7 =>
  (U.cell v5 0).bind fun c8 =>
  (U.asI .i64 c8).bind fun n9 =>
  (if (!decide (n7 = n9)) = true then
  (U.idx 1 a i).bind fun v10 =>
  (U.idx 1 b i).bind fun v11 =>
  (U.cell v10 0).bind fun c12 =>
  (U.asI .i64 c12).bind fun n13 =>
  (U.cell v11 0).bind fun c14 =>
  (U.asI .i64 c14).bind fun n15 =>
  (y107 M (decide (n13 < n15))).bind fun r16 =>
  (Rz.toU r16).bind fun u17 =>
  (U.asI .i64 u17).bind fun n18 =>
  some (.val (.c (.int .i64 (IntKind.wrap .i64 (1 - (IntKind.wrap .i64 (2 * n18)))))))
  else
  y88_1 M a b (IntKind.wrap .i64 (i + 1)))
  else
  (U.len a).bind fun k19 =>
  (U.len b).bind fun k20 =>
  (y107 M (decide (((k20 : Nat) : Int) < ((k19 : Nat) : Int)))).bind fun r21 =>
  (Rz.toU r21).bind fun u22 =>
  (U.asI .i64 u22).bind fun n23 =>
  (U.len a).bind fun k24 =>
  (U.len b).bind fun k25 =>
  (y107 M (decide (((k24 : Nat) : Int) < ((k25 : Nat) : Int)))).bind fun r26 =>
  (Rz.toU r26).bind fun u27 =>
  (U.asI .i64 u27).bind fun n28 =>
  some (.val (.c (.int .i64 (IntKind.wrap .i64 (n23 - n28)))))) := by
  unfold y88_1 yrunM; rw [yrun_eq]; kernel_rfl
-- stutter/stutterbase.edgeInts
theorem y89_eq (M : YM) (x_0 : Int) (x_1 : Int) (x_2 : Int) : y89 M x_0 x_1 x_2 =
  (if scals ([.c (.int .i64 x_0), .c (.int .i64 x_1), .c (.int .i64 x_2)]) = true then
  some (.sl (⟨true, 1, [.c (.int .i64 x_0), .c (.int .i64 x_1), .c (.int .i64 x_2)]⟩ : Sx))
  else
  none) := by
  unfold y89 yrunM; rw [yrun_eq]; kernel_rfl
-- cmp.Or[int]
theorem y97_eq (M : YM) (vals : U) : y97 M vals =
  (U.len vals).bind fun k1 =>
  y97_1 M 0 vals ((k1 : Nat) : Int) 0 := by
  unfold y97 yrunM; rw [yrun_eq]; kernel_rfl
theorem y97_1_eq (M : YM) (zero : Int) (x6 : U) (x7 : Int) (x8 : Int) : y97_1 M zero x6 x7 x8 =
  (if (decide (x8 < x7)) = true then
  (U.idx 1 x6 x8).bind fun v1 =>
  (U.cell v1 0).bind fun c2 =>
  (U.asI .i64 c2).bind fun n3 =>
  (if (!decide (n3 = zero)) = true then
  some (.val (.c (.int .i64 n3)))
  else
  y97_1 M zero x6 x7 (IntKind.wrap .i64 (x8 + 1)))
  else
  some (.val (.c (.int .i64 zero)))) := by
  unfold y97_1 yrunM; rw [yrun_eq]; kernel_rfl
-- cmp.Compare[int]
theorem y98_eq (M : YM) (x : Int) (y : Int) : y98 M x y =
  (y110 M x).bind fun r1 =>
  (Rz.toU r1).bind fun u2 =>
  (U.asB u2).bind fun b3 =>
  (y110 M y).bind fun r4 =>
  (Rz.toU r4).bind fun u5 =>
  (U.asB u5).bind fun b6 =>
  (if b3 = true then
  (if b6 = true then
  some (.val (.c (.int .i64 0)))
  else
  some (.val (.c (.int .i64 (-1)))))
  else
  (if b6 = true then
  some (.val (.c (.int .i64 1)))
  else
  (if (decide (x < y)) = true then
  some (.val (.c (.int .i64 (-1))))
  else
  (if (decide (y < x)) = true then
  some (.val (.c (.int .i64 1)))
  else
  some (.val (.c (.int .i64 0))))))) := by
  unfold y98 yrunM; rw [yrun_eq]; kernel_rfl
-- stutter/stutterbase.One
theorem y107_eq (M : YM) (is : Bool) : y107 M is =
  (if is = true then
  some (.val (.c (.int .i64 1)))
  else
  some (.val (.c (.int .i64 0)))) := by
  unfold y107 yrunM; rw [yrun_eq]; kernel_rfl
-- cmp.isNaN[int]
theorem y110_eq (M : YM) (x : Int) : y110 M x =
  some (.val (.c (.bool (!decide (x = x))))) := by
  unfold y110 yrunM; rw [yrun_eq]; kernel_rfl
end Go.Proofs.Ythjjbkiejkhjfaa.R
