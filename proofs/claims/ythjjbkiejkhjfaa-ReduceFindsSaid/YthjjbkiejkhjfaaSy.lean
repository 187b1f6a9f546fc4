/- - -/
import Derived.Test.YthjjbkiejkhjfaaRa
import Derived.Test.YthjjbkiejkhjfaaE9
import Derived.KernelRfl
set_option linter.all false
namespace Go.Proofs.Ythjjbkiejkhjfaa.R
open Go Go.Proofs.Ythjjbkiejkhjfaa.Vm
noncomputable section
abbrev ks0:List K0:=[(.int .i64),(.int .i64),(.int .i64),(.int .i64)]
abbrev ks1:List K0:=[(.int .i64), .c, .c]
abbrev ks2:List K0:=[(.int .i64),(.int .i64),(.int .i64)]
abbrev ks3:List K0:=[.bool, .bool, .bool, .bool, .bool, .bool, .bool, .bool, .bool, .bool, .bool, .bool]
abbrev ks4:List K0:=[.c, .c, .c, .c, .c, .c, .c, .c, .c, .c, .c, .c]
abbrev ks6:List K0:=[(.int .i64),(.int .i64), .c]
structure YM where
 ext:YCallT
def mdt:List (Nat×List RM):=[(3,[.sc]),(4,[.sc]),(5,[.sc]),(6,[.sc]),(7,[.sc]),(8,[.sc]),(9,[.sc]),(10,[.sc]),(11,[.sc]),(12,[.sc]),(13,[.va, .va]),(14,[.va]),(15,[.sls]),(16,[.sl]),(17,[.sc]),(18,[.sc]),(19,[.sc]),(20,[.sc]),(21,[.va, .va]),(22,[.sl]),(23,[.va, .va]),(24,[.va, .va]),(25,[.va, .va]),(26,[.sc]),(27,[.sc]),(28,[.sls]),(29,[.sls]),(30,[.va]),(31,[.va, .va]),(32,[.sls]),(33,[.va, .va]),(34,[.sc, .sc]),(35,[.sc]),(36,[.sl]),(37,[.sc]),(38,[.sc, .sc]),(39,[.sc]),(40,[.va, .va]),(41,[.sc]),(42,[.sls]),(43,[.sc]),(44,[.va, .va]),(45,[.sc]),(46,[.sc]),(47,[.va]),(48,[.sc]),(49,[.sc]),(50,[.sc]),(51,[.sc]),(52,[.va]),(53,[.va, .va]),(54,[.va]),(55,[.sc]),(56,[.sc]),(57,[.sls]),(58,[.sls]),(59,[.sls]),(60,[.sc]),(61,[.va]),(62,[.sls]),(63,[.sls]),(64,[.sc]),(65,[.sc]),(66,[.sc]),(67,[.va]),(68,[.sc]),(69,[.sc]),(70,[.sc, .sc]),(71,[.sls]),(72,[.sc]),(73,[.sc]),(74,[.sls]),(75,[]),(76,[.va]),(77,[.sls]),(78,[.sc]),(79,[.sc]),(80,[.sc]),(81,[.va]),(82,[.sc]),(83,[.sc]),(84,[.sc]),(85,[.sc]),(86,[.va]),(87,[.va]),(88,[.sc]),(89,[.sls]),(90,[.sls]),(91,[.sc]),(92,[.sc]),(93,[.sc]),(94,[.va]),(95,[.sc]),(96,[.sc]),(97,[.sc]),(98,[.sc]),(99,[.sc]),(100,[.va]),(101,[.sc]),(102,[.sls]),(103,[.sc]),(104,[.sc]),(105,[.sc]),(106,[.va]),(107,[.sc]),(108,[.sc]),(109,[.sc]),(110,[.sc]),(111,[.sc, .sc])]
def md(f:FuncId):List RM:=(mdt.lookup f).getD []
def youts:List Nat:=[10,40,44,54,61,75,76,81,87]
def yprog(f:FuncId):Option RFunc:=if youts.contains f then none else prog f
def yz(n:Nat)(l:List (Nat×Y)):List Y:=(List.range n).map fun p=>(l.lookup p).getD .poison
def yrunM(M:YM):YRunT:=Vm.yrun M.ext yprog md
def ycall(M:YM)(f:FuncId)(us:List U):YRs:=yrunM M f 0 (us.map .val) []
theorem yq{M:YM}{f:FuncId}{l:Nat}{ys:List Y}{obs:List Ob}{r:YRs}(h:Vm.ystepR M.ext yprog md (Vm.yrun M.ext yprog md) f l ys obs=r):yrunM M f l ys obs=r:=by unfold yrunM;rw[k0S];exact h
def y7(M:YM)(g_0:Int)(g_1 g_2 labels:U):YRs:=yrunM M 7 0 ([.val (.st [.c (.int .i64 g_0),g_1,g_2]), .val labels]) []
def y7_1(M:YM)(labels:U)(g_0:Int)(g_1 g_2 c:U)(e d:Int):YRs:=yrunM M 7 1 (yz 118 [(1, .val labels),(2, .loc [.u (.c (.int .i64 g_0)), .u g_1, .u g_2]),(5, .val c),(6, .val (.c (.int .i64 e))),(7, .val (.c (.int .i64 d)))]) []
def y7_2(M:YM)(g_0:Int)(g_1 g_2 c:U)(s:Int)(free shown:Sx):YRs:=yrunM M 7 2 (yz 118 [(2, .loc [.u (.c (.int .i64 g_0)), .u g_1, .u g_2]),(5, .val c),(10, .h 10000),(11, .h 10001),(12, .val (.c (.int .i64 s)))]) [.sl free, .sl shown]
def y7_3(M:YM)(g_0:Int)(g_1 g_2 c:U)(s i:Int)(free shown l:Sx):YRs:=yrunM M 7 3 (yz 118 [(2, .loc [.u (.c (.int .i64 g_0)), .u g_1, .u g_2]),(5, .val c),(10, .h 10000),(11, .h 10001),(12, .val (.c (.int .i64 s))),(13, .h 10002),(14, .val (.c (.int .i64 i)))]) [.sl free, .sl shown, .sl l]
def y11(M:YM)(g_0:Int)(g_1 g_2:U):YRs:=yrunM M 11 0 ([.val (.st [.c (.int .i64 g_0),g_1,g_2])]) []
def y14(M:YM)(g_0:Int)(g_1 g_2:U):YRs:=yrunM M 14 0 ([.val (.st [.c (.int .i64 g_0),g_1,g_2])]) []
def y15(M:YM)(l:U):YRs:=yrunM M 15 0 ([.val l]) []
def y17(M:YM)(g_0:Int)(g_1 g_2:U):YRs:=yrunM M 17 0 ([.val (.st [.c (.int .i64 g_0),g_1,g_2])]) []
def y18(M:YM)(g_0:Int)(g_1 g_2 labels:U):YRs:=yrunM M 18 0 ([.val (.st [.c (.int .i64 g_0),g_1,g_2]), .val labels]) []
def y18_1(M:YM)(labels:U)(i:Int):YRs:=yrunM M 18 1 (yz 23 [(1, .val labels),(5, .val (.c (.int .i64 i)))]) []
def y19(M:YM)(g_0:Int)(g_1 g_2 c:U):YRs:=yrunM M 19 0 ([.val (.st [.c (.int .i64 g_0),g_1,g_2]), .val c]) []
def y19_1(M:YM)(c:U)(g_0:Int)(g_1 g_2:U)(s:Int):YRs:=yrunM M 19 1 (yz 67 [(1, .val c),(2, .loc [.u (.c (.int .i64 g_0)), .u g_1, .u g_2]),(5, .val (.c (.int .i64 s)))]) []
def y19_2(M:YM)(c:U)(g_0:Int)(g_1 g_2:U)(s i:Int):YRs:=yrunM M 19 2 (yz 67 [(1, .val c),(2, .loc [.u (.c (.int .i64 g_0)), .u g_1, .u g_2]),(5, .val (.c (.int .i64 s))),(6, .val (.c (.int .i64 i)))]) []
def y19_3(M:YM)(c:U)(g_0:Int)(g_1 g_2:U)(s i:Int)(l:Sx):YRs:=yrunM M 19 3 (yz 67 [(1, .val c),(2, .loc [.u (.c (.int .i64 g_0)), .u g_1, .u g_2]),(5, .val (.c (.int .i64 s))),(7, .h 10000),(8, .val (.c (.int .i64 i)))]) [.sl l]
def y21(M:YM)(g_0:Int)(g_1 g_2 labels c:U):YRs:=yrunM M 21 0 ([.val (.st [.c (.int .i64 g_0),g_1,g_2]), .val labels, .val c]) []
def y21_1(M:YM)(c:U)(g_0:Int)(g_1 g_2:U)(x6_0 x6_1 s:Int)(x6_2 free shown:Sx):YRs:=yrunM M 21 1 (yz 106 [(2, .val c),(3, .loc [.u (.c (.int .i64 g_0)), .u g_1, .u g_2]),(6, .loc [.u (.c (.int .i64 x6_0)), .u (.c (.int .i64 x6_1)), .h 10000]),(8, .h 10001),(9, .h 10002),(10, .val (.c (.int .i64 s)))]) [.sl x6_2, .sl free, .sl shown]
def y21_2(M:YM)(c:U)(g_0:Int)(g_1 g_2:U)(x6_0 x6_1 s i:Int)(x6_2 free shown:Sx):YRs:=yrunM M 21 2 (yz 106 [(2, .val c),(3, .loc [.u (.c (.int .i64 g_0)), .u g_1, .u g_2]),(6, .loc [.u (.c (.int .i64 x6_0)), .u (.c (.int .i64 x6_1)), .h 10000]),(8, .h 10001),(9, .h 10002),(10, .val (.c (.int .i64 s))),(13, .val (.c (.int .i64 i)))]) [.sl x6_2, .sl free, .sl shown]
def y21_3(M:YM)(c:U)(g_0:Int)(g_1 g_2:U)(x6_0 x6_1 s:Int)(x6_2:Sx):YRs:=yrunM M 21 3 (yz 106 [(2, .val c),(3, .loc [.u (.c (.int .i64 g_0)), .u g_1, .u g_2]),(6, .loc [.u (.c (.int .i64 x6_0)), .u (.c (.int .i64 x6_1)), .h 10000]),(14, .val (.c (.int .i64 s)))]) [.sl x6_2]
def y27(M:YM)(a b:U):YRs:=yrunM M 27 0 ([.val a, .val b]) []
def y27_1(M:YM)(a b:U)(i:Int):YRs:=yrunM M 27 1 (yz 26 [(0, .val a),(1, .val b),(5, .val (.c (.int .i64 i)))]) []
def y32(M:YM)(g_0:Int)(g_1 g_2 labels:U):YRs:=yrunM M 32 0 ([.val (.st [.c (.int .i64 g_0),g_1,g_2]), .val labels]) []
def y32_1(M:YM)(labels:U)(g_0:Int)(g_1 g_2:U)(a:Int)(out:Sx):YRs:=yrunM M 32 1 (yz 58 [(1, .val labels),(2, .loc [.u (.c (.int .i64 g_0)), .u g_1, .u g_2]),(5, .h 10000),(6, .val (.c (.int .i64 a)))]) [.sl out]
def y32_2(M:YM)(labels:U)(g_0:Int)(g_1 g_2:U)(a:Int)(is:Bool)(i:Int)(out:Sx):YRs:=yrunM M 32 2 (yz 58 [(1, .val labels),(2, .loc [.u (.c (.int .i64 g_0)), .u g_1, .u g_2]),(5, .h 10000),(6, .val (.c (.int .i64 a))),(7, .val (.c (.bool is))),(8, .val (.c (.int .i64 i)))]) [.sl out]
def y32_3(M:YM)(labels:U)(g_0:Int)(g_1 g_2:U)(a:Int)(out:Sx):YRs:=yrunM M 32 3 (yz 58 [(1, .val labels),(2, .loc [.u (.c (.int .i64 g_0)), .u g_1, .u g_2]),(5, .h 10000),(6, .val (.c (.int .i64 a)))]) [.sl out]
def y36(M:YM)(g_0:Int)(g_1 g_2:U):YRs:=yrunM M 36 0 ([.val (.st [.c (.int .i64 g_0),g_1,g_2])]) []
def y36_1(M:YM)(g_0:Int)(g_1 g_2:U)(a:Int)(out:Sx):YRs:=yrunM M 36 1 (yz 38 [(1, .loc [.u (.c (.int .i64 g_0)), .u g_1, .u g_2]),(3, .h 10000),(4, .val (.c (.int .i64 a)))]) [.sl out]
def y36_2(M:YM)(g_0:Int)(g_1 g_2:U)(a b:Int)(out l:Sx):YRs:=yrunM M 36 2 (yz 38 [(1, .loc [.u (.c (.int .i64 g_0)), .u g_1, .u g_2]),(3, .h 10000),(4, .val (.c (.int .i64 a))),(5, .h 10001),(6, .val (.c (.int .i64 b)))]) [.sl out, .sl l]
def y36_3(M:YM)(g_0:Int)(g_1 g_2:U)(a b:Int)(out l:Sx):YRs:=yrunM M 36 3 (yz 38 [(1, .loc [.u (.c (.int .i64 g_0)), .u g_1, .u g_2]),(3, .h 10000),(4, .val (.c (.int .i64 a))),(5, .h 10001),(6, .val (.c (.int .i64 b)))]) [.sl out, .sl l]
def y37(M:YM)(n low high:Int):YRs:=yrunM M 37 0 ([.val (.c (.int .i64 n)), .val (.c (.int .i64 low)), .val (.c (.int .i64 high))]) []
def y38(M:YM)(g_0:Int)(g_1 g_2:U)(a b:Int):YRs:=yrunM M 38 0 ([.val (.st [.c (.int .i64 g_0),g_1,g_2]), .val (.c (.int .i64 a)), .val (.c (.int .i64 b))]) []
def y38_1(M:YM)(a b g_0:Int)(g_1 g_2:U)(x6_0 x6_1 x6_2 x6_3 s:Int):YRs:=yrunM M 38 1 (yz 201 [(1, .val (.c (.int .i64 a))),(2, .val (.c (.int .i64 b))),(3, .loc [.u (.c (.int .i64 g_0)), .u g_1, .u g_2]),(6, .loc [.u (.c (.int .i64 x6_0)), .u (.c (.int .i64 x6_1)), .u (.c (.int .i64 x6_2)), .u (.c (.int .i64 x6_3))]),(8, .val (.c (.int .i64 s)))]) []
def y38_2(M:YM)(a b g_0:Int)(g_1 g_2:U)(x6_0 x6_1 x6_2 x6_3 s i:Int)(x y:Sx):YRs:=yrunM M 38 2 (yz 201 [(1, .val (.c (.int .i64 a))),(2, .val (.c (.int .i64 b))),(3, .loc [.u (.c (.int .i64 g_0)), .u g_1, .u g_2]),(6, .loc [.u (.c (.int .i64 x6_0)), .u (.c (.int .i64 x6_1)), .u (.c (.int .i64 x6_2)), .u (.c (.int .i64 x6_3))]),(8, .val (.c (.int .i64 s))),(9, .h 10000),(10, .h 10001),(11, .val (.c (.int .i64 i)))]) [.sl x, .sl y]
def y38_3(M:YM)(a b g_0:Int)(g_1 g_2:U)(x6_0 x6_1 x6_2 x6_3 s i k:Int)(x y:Sx):YRs:=yrunM M 38 3 (yz 201 [(1, .val (.c (.int .i64 a))),(2, .val (.c (.int .i64 b))),(3, .loc [.u (.c (.int .i64 g_0)), .u g_1, .u g_2]),(6, .loc [.u (.c (.int .i64 x6_0)), .u (.c (.int .i64 x6_1)), .u (.c (.int .i64 x6_2)), .u (.c (.int .i64 x6_3))]),(8, .val (.c (.int .i64 s))),(9, .h 10000),(10, .h 10001),(11, .val (.c (.int .i64 i))),(12, .val (.c (.int .i64 k)))]) [.sl x, .sl y]
def y38_4(M:YM)(a b g_0:Int)(g_1 g_2:U)(x6_0 x6_1 x6_2 x6_3 s i:Int)(x y:Sx):YRs:=yrunM M 38 4 (yz 201 [(1, .val (.c (.int .i64 a))),(2, .val (.c (.int .i64 b))),(3, .loc [.u (.c (.int .i64 g_0)), .u g_1, .u g_2]),(6, .loc [.u (.c (.int .i64 x6_0)), .u (.c (.int .i64 x6_1)), .u (.c (.int .i64 x6_2)), .u (.c (.int .i64 x6_3))]),(8, .val (.c (.int .i64 s))),(9, .h 10000),(10, .h 10001),(13, .val (.c (.int .i64 i)))]) [.sl x, .sl y]
def y38_5(M:YM)(a b g_0:Int)(g_1 g_2:U)(x6_0 x6_1 x6_2 x6_3 s i k:Int)(x y z:Sx):YRs:=yrunM M 38 5 (yz 201 [(1, .val (.c (.int .i64 a))),(2, .val (.c (.int .i64 b))),(3, .loc [.u (.c (.int .i64 g_0)), .u g_1, .u g_2]),(6, .loc [.u (.c (.int .i64 x6_0)), .u (.c (.int .i64 x6_1)), .u (.c (.int .i64 x6_2)), .u (.c (.int .i64 x6_3))]),(8, .val (.c (.int .i64 s))),(9, .h 10000),(10, .h 10001),(13, .val (.c (.int .i64 i))),(14, .h 10002),(15, .val (.c (.int .i64 k)))]) [.sl x, .sl y, .sl z]
def y38_6(M:YM)(a b g_0:Int)(g_1 g_2:U)(x6_0 x6_1 x6_2 x6_3 s best_0 best_1 best_2 best_3:Int)(found:Bool)(k:Int)(y:Sx):YRs:=yrunM M 38 6 (yz 201 [(1, .val (.c (.int .i64 a))),(2, .val (.c (.int .i64 b))),(3, .loc [.u (.c (.int .i64 g_0)), .u g_1, .u g_2]),(6, .loc [.u (.c (.int .i64 x6_0)), .u (.c (.int .i64 x6_1)), .u (.c (.int .i64 x6_2)), .u (.c (.int .i64 x6_3))]),(8, .val (.c (.int .i64 s))),(10, .h 10000),(16, .loc [.u (.c (.int .i64 best_0)), .u (.c (.int .i64 best_1)), .u (.c (.int .i64 best_2)), .u (.c (.int .i64 best_3))]),(17, .val (.c (.bool found))),(18, .val (.c (.int .i64 k)))]) [.sl y]
def y38_7(M:YM)(a b g_0:Int)(g_1 g_2:U)(x6_0 x6_1 x6_2 x6_3 s best_0 best_1 best_2 best_3:Int)(found:Bool)(k i:Int)(y z:Sx):YRs:=yrunM M 38 7 (yz 201 [(1, .val (.c (.int .i64 a))),(2, .val (.c (.int .i64 b))),(3, .loc [.u (.c (.int .i64 g_0)), .u g_1, .u g_2]),(6, .loc [.u (.c (.int .i64 x6_0)), .u (.c (.int .i64 x6_1)), .u (.c (.int .i64 x6_2)), .u (.c (.int .i64 x6_3))]),(8, .val (.c (.int .i64 s))),(10, .h 10000),(16, .loc [.u (.c (.int .i64 best_0)), .u (.c (.int .i64 best_1)), .u (.c (.int .i64 best_2)), .u (.c (.int .i64 best_3))]),(17, .val (.c (.bool found))),(18, .val (.c (.int .i64 k))),(19, .h 10001),(20, .val (.c (.int .i64 i)))]) [.sl y, .sl z]
def y38_8(M:YM)(a b g_0:Int)(g_1 g_2:U)(x6_0 x6_1 x6_2 x6_3 s best_0 best_1 best_2 best_3:Int)(found:Bool)(k i:Int)(y z:Sx):YRs:=yrunM M 38 8 (yz 201 [(1, .val (.c (.int .i64 a))),(2, .val (.c (.int .i64 b))),(3, .loc [.u (.c (.int .i64 g_0)), .u g_1, .u g_2]),(6, .loc [.u (.c (.int .i64 x6_0)), .u (.c (.int .i64 x6_1)), .u (.c (.int .i64 x6_2)), .u (.c (.int .i64 x6_3))]),(8, .val (.c (.int .i64 s))),(10, .h 10000),(16, .loc [.u (.c (.int .i64 best_0)), .u (.c (.int .i64 best_1)), .u (.c (.int .i64 best_2)), .u (.c (.int .i64 best_3))]),(17, .val (.c (.bool found))),(18, .val (.c (.int .i64 k))),(19, .h 10001),(20, .val (.c (.int .i64 i)))]) [.sl y, .sl z]
def y39(M:YM)(l:U)(n:Int):YRs:=yrunM M 39 0 ([.val l, .val (.c (.int .i64 n))]) []
def y39_1(M:YM)(l:U)(n i:Int):YRs:=yrunM M 39 1 (yz 18 [(0, .val l),(1, .val (.c (.int .i64 n))),(5, .val (.c (.int .i64 i)))]) []
def y41(M:YM)(g_0:Int)(g_1 g_2:U):YRs:=yrunM M 41 0 ([.val (.st [.c (.int .i64 g_0),g_1,g_2])]) []
def y41_1(M:YM)(g_0:Int)(g_1 g_2:U)(s:Int)(left:Sx):YRs:=yrunM M 41 1 (yz 83 [(1, .loc [.u (.c (.int .i64 g_0)), .u g_1, .u g_2]),(3, .h 10000),(4, .val (.c (.int .i64 s)))]) [.sl left]
def y41_2(M:YM)(g_0:Int)(g_1 g_2:U)(k:Int)(left:Sx):YRs:=yrunM M 41 2 (yz 83 [(1, .loc [.u (.c (.int .i64 g_0)), .u g_1, .u g_2]),(3, .h 10000),(5, .val (.c (.int .i64 k)))]) [.sl left]
def y41_3(M:YM)(g_0:Int)(g_1 g_2:U)(k s:Int)(left:Sx):YRs:=yrunM M 41 3 (yz 83 [(1, .loc [.u (.c (.int .i64 g_0)), .u g_1, .u g_2]),(3, .h 10000),(5, .val (.c (.int .i64 k))),(6, .val (.c (.int .i64 s)))]) [.sl left]
def y41_5(M:YM)(g_0:Int)(g_1 g_2:U)(s:Int)(left:Sx):YRs:=yrunM M 41 5 (yz 83 [(1, .loc [.u (.c (.int .i64 g_0)), .u g_1, .u g_2]),(3, .h 10000),(9, .val (.c (.int .i64 s)))]) [.sl left]
def y41_4(M:YM)(g_0:Int)(g_1 g_2:U)(k s:Int)(out:Bool)(i:Int)(left:Sx):YRs:=yrunM M 41 4 (yz 83 [(1, .loc [.u (.c (.int .i64 g_0)), .u g_1, .u g_2]),(3, .h 10000),(5, .val (.c (.int .i64 k))),(6, .val (.c (.int .i64 s))),(7, .val (.c (.bool out))),(8, .val (.c (.int .i64 i)))]) [.sl left]
def y42(M:YM)(g_0:Int)(g_1 g_2:U)(s:Int):YRs:=yrunM M 42 0 ([.val (.st [.c (.int .i64 g_0),g_1,g_2]), .val (.c (.int .i64 s))]) []
def y42_1(M:YM)(s g_0:Int)(g_1 g_2:U)(a:Int)(out:Sx):YRs:=yrunM M 42 1 (yz 22 [(1, .val (.c (.int .i64 s))),(2, .loc [.u (.c (.int .i64 g_0)), .u g_1, .u g_2]),(5, .h 10000),(6, .val (.c (.int .i64 a)))]) [.sl out]
def y42_2(M:YM)(s g_0:Int)(g_1 g_2:U)(a:Int)(out:Sx):YRs:=yrunM M 42 2 (yz 22 [(1, .val (.c (.int .i64 s))),(2, .loc [.u (.c (.int .i64 g_0)), .u g_1, .u g_2]),(5, .h 10000),(6, .val (.c (.int .i64 a)))]) [.sl out]
def y43(M:YM)(g_0:Int)(g_1 g_2 free:U)(a:Int):YRs:=yrunM M 43 0 ([.val (.st [.c (.int .i64 g_0),g_1,g_2]), .val free, .val (.c (.int .i64 a))]) []
def y43_1(M:YM)(free:U)(a g_0:Int)(g_1 g_2:U)(i:Int):YRs:=yrunM M 43 1 (yz 34 [(1, .val free),(2, .val (.c (.int .i64 a))),(3, .loc [.u (.c (.int .i64 g_0)), .u g_1, .u g_2]),(7, .val (.c (.int .i64 i)))]) []
def y48(M:YM)(g_0:Int)(g_1 g_2:U):YRs:=yrunM M 48 0 ([.val (.st [.c (.int .i64 g_0),g_1,g_2])]) []
def y48_1(M:YM)(g_0:Int)(g_1 g_2 x18:U)(x19 x20:Int):YRs:=yrunM M 48 1 (yz 96 [(1, .loc [.u (.c (.int .i64 g_0)), .u g_1, .u g_2]),(18, .val x18),(19, .val (.c (.int .i64 x19))),(20, .val (.c (.int .i64 x20)))]) []
def y48_2(M:YM)(g_0:Int)(g_1 g_2 x47:U)(x48 x49:Int):YRs:=yrunM M 48 2 (yz 96 [(1, .loc [.u (.c (.int .i64 g_0)), .u g_1, .u g_2]),(47, .val x47),(48, .val (.c (.int .i64 x48))),(49, .val (.c (.int .i64 x49)))]) []
def y49(M:YM)(l:U):YRs:=yrunM M 49 0 ([.val l]) []
def y49_1(M:YM)(x5:U)(x6 x7:Int):YRs:=yrunM M 49 1 (yz 15 [(5, .val x5),(6, .val (.c (.int .i64 x6))),(7, .val (.c (.int .i64 x7)))]) []
def y50(M:YM)(g_0:Int)(g_1 g_2 labels:U):YRs:=yrunM M 50 0 ([.val (.st [.c (.int .i64 g_0),g_1,g_2]), .val labels]) []
def y53(M:YM)(c:U)(s:Int):YRs:=yrunM M 53 0 ([.val c, .val (.c (.int .i64 s))]) []
def y55(M:YM)(g_0:Int)(g_1 g_2:U):YRs:=yrunM M 55 0 ([.val (.st [.c (.int .i64 g_0),g_1,g_2])]) []
def y55_1(M:YM)(g_0:Int)(g_1 g_2:U)(i:Int):YRs:=yrunM M 55 1 (yz 110 [(1, .loc [.u (.c (.int .i64 g_0)), .u g_1, .u g_2]),(3, .val (.c (.int .i64 i)))]) []
def y55_2(M:YM)(g_0:Int)(g_1 g_2:U)(i:Int):YRs:=yrunM M 55 2 (yz 110 [(1, .loc [.u (.c (.int .i64 g_0)), .u g_1, .u g_2]),(4, .val (.c (.int .i64 i)))]) []
def y56(M:YM)(g_0:Int)(g_1 g_2 c:U)(s:Int):YRs:=yrunM M 56 0 ([.val (.st [.c (.int .i64 g_0),g_1,g_2]), .val c, .val (.c (.int .i64 s))]) []
def y57(M:YM)(g_0:Int)(g_1 g_2 free:U)(s:Int)(chosen:U):YRs:=yrunM M 57 0 ([.val (.st [.c (.int .i64 g_0),g_1,g_2]), .val free, .val (.c (.int .i64 s)), .val chosen]) []
def y57_1(M:YM)(free chosen:U)(g_0:Int)(g_1 g_2:U)(paths seen:Sx):YRs:=yrunM M 57 1 (yz 147 [(1, .val free),(3, .val chosen),(4, .loc [.u (.c (.int .i64 g_0)), .u g_1, .u g_2]),(9, .h 10000),(10, .h 10001)]) [.sl paths, .sl seen]
def y57_2(M:YM)(free chosen:U)(g_0:Int)(g_1 g_2:U)(i:Int)(paths seen:Sx):YRs:=yrunM M 57 2 (yz 147 [(1, .val free),(3, .val chosen),(4, .loc [.u (.c (.int .i64 g_0)), .u g_1, .u g_2]),(9, .h 10000),(10, .h 10001),(11, .val (.c (.int .i64 i)))]) [.sl paths, .sl seen]
def y57_3(M:YM)(free chosen:U)(g_0:Int)(g_1 g_2:U)(i k:Int)(paths seen l:Sx):YRs:=yrunM M 57 3 (yz 147 [(1, .val free),(3, .val chosen),(4, .loc [.u (.c (.int .i64 g_0)), .u g_1, .u g_2]),(9, .h 10000),(10, .h 10001),(11, .val (.c (.int .i64 i))),(12, .h 10002),(13, .val (.c (.int .i64 k)))]) [.sl paths, .sl seen, .sl l]
def y57_4(M:YM)(free chosen:U)(g_0:Int)(g_1 g_2:U)(i:Int)(paths seen next:Sx):YRs:=yrunM M 57 4 (yz 147 [(1, .val free),(3, .val chosen),(4, .loc [.u (.c (.int .i64 g_0)), .u g_1, .u g_2]),(9, .h 10000),(10, .h 10001),(15, .h 10002),(16, .val (.c (.int .i64 i)))]) [.sl paths, .sl seen, .sl next]
def y57_5(M:YM)(free chosen:U)(g_0:Int)(g_1 g_2:U)(i k:Int)(paths seen next l:Sx):YRs:=yrunM M 57 5 (yz 147 [(1, .val free),(3, .val chosen),(4, .loc [.u (.c (.int .i64 g_0)), .u g_1, .u g_2]),(9, .h 10000),(10, .h 10001),(15, .h 10002),(16, .val (.c (.int .i64 i))),(17, .h 10003),(18, .val (.c (.int .i64 k)))]) [.sl paths, .sl seen, .sl next, .sl l]
def y57_6(M:YM)(free chosen:U)(g_0:Int)(g_1 g_2:U)(i k:Int)(paths seen next l:Sx):YRs:=yrunM M 57 6 (yz 147 [(1, .val free),(3, .val chosen),(4, .loc [.u (.c (.int .i64 g_0)), .u g_1, .u g_2]),(9, .h 10000),(10, .h 10001),(15, .h 10002),(16, .val (.c (.int .i64 i))),(17, .h 10003),(18, .val (.c (.int .i64 k)))]) [.sl paths, .sl seen, .sl next, .sl l]
def y58(M:YM)(g_0:Int)(g_1 g_2 c:U)(s:Int):YRs:=yrunM M 58 0 ([.val (.st [.c (.int .i64 g_0),g_1,g_2]), .val c, .val (.c (.int .i64 s))]) []
def y58_1(M:YM)(c:U)(s g_0:Int)(g_1 g_2:U)(paths seen:Sx):YRs:=yrunM M 58 1 (yz 115 [(1, .val c),(2, .val (.c (.int .i64 s))),(3, .loc [.u (.c (.int .i64 g_0)), .u g_1, .u g_2]),(7, .h 10000),(8, .h 10001)]) [.sl paths, .sl seen]
def y58_2(M:YM)(c:U)(s g_0:Int)(g_1 g_2:U)(i:Int)(paths seen next:Sx):YRs:=yrunM M 58 2 (yz 115 [(1, .val c),(2, .val (.c (.int .i64 s))),(3, .loc [.u (.c (.int .i64 g_0)), .u g_1, .u g_2]),(7, .h 10000),(8, .h 10001),(9, .h 10002),(10, .val (.c (.int .i64 i)))]) [.sl paths, .sl seen, .sl next]
def y58_3(M:YM)(c:U)(s g_0:Int)(g_1 g_2:U)(i vfrom k:Int)(paths seen next l:Sx):YRs:=yrunM M 58 3 (yz 115 [(1, .val c),(2, .val (.c (.int .i64 s))),(3, .loc [.u (.c (.int .i64 g_0)), .u g_1, .u g_2]),(7, .h 10000),(8, .h 10001),(9, .h 10002),(10, .val (.c (.int .i64 i))),(11, .val (.c (.int .i64 vfrom))),(12, .h 10003),(13, .val (.c (.int .i64 k)))]) [.sl paths, .sl seen, .sl next, .sl l]
def y58_4(M:YM)(c:U)(s g_0:Int)(g_1 g_2:U)(i vfrom k:Int)(paths seen next l:Sx):YRs:=yrunM M 58 4 (yz 115 [(1, .val c),(2, .val (.c (.int .i64 s))),(3, .loc [.u (.c (.int .i64 g_0)), .u g_1, .u g_2]),(7, .h 10000),(8, .h 10001),(9, .h 10002),(10, .val (.c (.int .i64 i))),(11, .val (.c (.int .i64 vfrom))),(12, .h 10003),(13, .val (.c (.int .i64 k)))]) [.sl paths, .sl seen, .sl next, .sl l]
def y59(M:YM)(s:U):YRs:=yrunM M 59 0 ([.val s]) []
def y60(M:YM)(s:U)(v:Int):YRs:=yrunM M 60 0 ([.val s, .val (.c (.int .i64 v))]) []
def y66(M:YM)(g labels:U):YRs:=yrunM M 66 0 ([.val g, .val labels]) []
def y66_1(M:YM)(labels:U)(x4_0 x4_1 x4_2 x4_3 x4_4 x4_5 x4_6 x4_7 x4_8 x4_9 x4_10 x4_11:Bool)(x12:U)(x13 x14:Int)(out:U):YRs:=yrunM M 66 1 (yz 40 [(1, .val labels),(4, .loc [.u (.c (.bool x4_0)), .u (.c (.bool x4_1)), .u (.c (.bool x4_2)), .u (.c (.bool x4_3)), .u (.c (.bool x4_4)), .u (.c (.bool x4_5)), .u (.c (.bool x4_6)), .u (.c (.bool x4_7)), .u (.c (.bool x4_8)), .u (.c (.bool x4_9)), .u (.c (.bool x4_10)), .u (.c (.bool x4_11))]),(5, .h 10000),(12, .val x12),(13, .val (.c (.int .i64 x13))),(14, .val (.c (.int .i64 x14)))]) [.oa out]
def y67(M:YM)(g:U):YRs:=yrunM M 67 0 ([.val g]) []
def y67_1(M:YM)(g:U)(x2_0 x2_1 x2_2 x2_3 x2_4 x2_5 x2_6 x2_7 x2_8 x2_9 x2_10 x2_11 x2_12 x2_13 x2_14 x2_15 x2_16 x2_17 x2_18 x2_19 x2_20 x2_21 x2_22 x2_23 x2_24 x2_25 x2_26 x2_27 x2_28 x2_29 x2_30 x2_31 x2_32 x2_33 x2_34 x2_35 x2_36 x2_37 x2_38 x2_39 x2_40 x2_41 x2_42 x2_43 x2_44 x2_45 x2_46 x2_47 x2_48 x2_49 x2_50 x2_51 x2_52 x2_53 x2_54 x2_55 x2_56 x2_57 x2_58 x2_59 x2_60 x2_61 x2_62 x2_63 x2_64 x2_65 x2_66 x2_67 x2_68 x2_69 x2_70 x2_71 x2_72 x2_73 x2_74 x2_75 x2_76 x2_77 x2_78 x2_79 x2_80 x2_81 x2_82 x2_83 x2_84 x2_85 x2_86 x2_87 x2_88 x2_89 x2_90 x2_91 x2_92 x2_93 x2_94 x2_95 x2_96 x2_97 x2_98 x2_99 x2_100 x2_101 x2_102 x2_103 x2_104 x2_105 x2_106 x2_107 x2_108 x2_109 x2_110 x2_111 x2_112 x2_113 x2_114 x2_115 x2_116 x2_117 x2_118 x2_119 x2_120 x2_121 x2_122 x2_123 x2_124 x2_125 x2_126 x2_127 x2_128 x2_129 x2_130 x2_131 x2_132 x2_133 x2_134 x2_135 x2_136 x2_137 x2_138 x2_139 x2_140 x2_141 x2_142 x2_143:Bool)(x8:Int)(out:U):YRs:=yrunM M 67 1 (yz 39 [(0, .val g),(2, .loc [.u (.c (.bool x2_0)), .u (.c (.bool x2_1)), .u (.c (.bool x2_2)), .u (.c (.bool x2_3)), .u (.c (.bool x2_4)), .u (.c (.bool x2_5)), .u (.c (.bool x2_6)), .u (.c (.bool x2_7)), .u (.c (.bool x2_8)), .u (.c (.bool x2_9)), .u (.c (.bool x2_10)), .u (.c (.bool x2_11)), .u (.c (.bool x2_12)), .u (.c (.bool x2_13)), .u (.c (.bool x2_14)), .u (.c (.bool x2_15)), .u (.c (.bool x2_16)), .u (.c (.bool x2_17)), .u (.c (.bool x2_18)), .u (.c (.bool x2_19)), .u (.c (.bool x2_20)), .u (.c (.bool x2_21)), .u (.c (.bool x2_22)), .u (.c (.bool x2_23)), .u (.c (.bool x2_24)), .u (.c (.bool x2_25)), .u (.c (.bool x2_26)), .u (.c (.bool x2_27)), .u (.c (.bool x2_28)), .u (.c (.bool x2_29)), .u (.c (.bool x2_30)), .u (.c (.bool x2_31)), .u (.c (.bool x2_32)), .u (.c (.bool x2_33)), .u (.c (.bool x2_34)), .u (.c (.bool x2_35)), .u (.c (.bool x2_36)), .u (.c (.bool x2_37)), .u (.c (.bool x2_38)), .u (.c (.bool x2_39)), .u (.c (.bool x2_40)), .u (.c (.bool x2_41)), .u (.c (.bool x2_42)), .u (.c (.bool x2_43)), .u (.c (.bool x2_44)), .u (.c (.bool x2_45)), .u (.c (.bool x2_46)), .u (.c (.bool x2_47)), .u (.c (.bool x2_48)), .u (.c (.bool x2_49)), .u (.c (.bool x2_50)), .u (.c (.bool x2_51)), .u (.c (.bool x2_52)), .u (.c (.bool x2_53)), .u (.c (.bool x2_54)), .u (.c (.bool x2_55)), .u (.c (.bool x2_56)), .u (.c (.bool x2_57)), .u (.c (.bool x2_58)), .u (.c (.bool x2_59)), .u (.c (.bool x2_60)), .u (.c (.bool x2_61)), .u (.c (.bool x2_62)), .u (.c (.bool x2_63)), .u (.c (.bool x2_64)), .u (.c (.bool x2_65)), .u (.c (.bool x2_66)), .u (.c (.bool x2_67)), .u (.c (.bool x2_68)), .u (.c (.bool x2_69)), .u (.c (.bool x2_70)), .u (.c (.bool x2_71)), .u (.c (.bool x2_72)), .u (.c (.bool x2_73)), .u (.c (.bool x2_74)), .u (.c (.bool x2_75)), .u (.c (.bool x2_76)), .u (.c (.bool x2_77)), .u (.c (.bool x2_78)), .u (.c (.bool x2_79)), .u (.c (.bool x2_80)), .u (.c (.bool x2_81)), .u (.c (.bool x2_82)), .u (.c (.bool x2_83)), .u (.c (.bool x2_84)), .u (.c (.bool x2_85)), .u (.c (.bool x2_86)), .u (.c (.bool x2_87)), .u (.c (.bool x2_88)), .u (.c (.bool x2_89)), .u (.c (.bool x2_90)), .u (.c (.bool x2_91)), .u (.c (.bool x2_92)), .u (.c (.bool x2_93)), .u (.c (.bool x2_94)), .u (.c (.bool x2_95)), .u (.c (.bool x2_96)), .u (.c (.bool x2_97)), .u (.c (.bool x2_98)), .u (.c (.bool x2_99)), .u (.c (.bool x2_100)), .u (.c (.bool x2_101)), .u (.c (.bool x2_102)), .u (.c (.bool x2_103)), .u (.c (.bool x2_104)), .u (.c (.bool x2_105)), .u (.c (.bool x2_106)), .u (.c (.bool x2_107)), .u (.c (.bool x2_108)), .u (.c (.bool x2_109)), .u (.c (.bool x2_110)), .u (.c (.bool x2_111)), .u (.c (.bool x2_112)), .u (.c (.bool x2_113)), .u (.c (.bool x2_114)), .u (.c (.bool x2_115)), .u (.c (.bool x2_116)), .u (.c (.bool x2_117)), .u (.c (.bool x2_118)), .u (.c (.bool x2_119)), .u (.c (.bool x2_120)), .u (.c (.bool x2_121)), .u (.c (.bool x2_122)), .u (.c (.bool x2_123)), .u (.c (.bool x2_124)), .u (.c (.bool x2_125)), .u (.c (.bool x2_126)), .u (.c (.bool x2_127)), .u (.c (.bool x2_128)), .u (.c (.bool x2_129)), .u (.c (.bool x2_130)), .u (.c (.bool x2_131)), .u (.c (.bool x2_132)), .u (.c (.bool x2_133)), .u (.c (.bool x2_134)), .u (.c (.bool x2_135)), .u (.c (.bool x2_136)), .u (.c (.bool x2_137)), .u (.c (.bool x2_138)), .u (.c (.bool x2_139)), .u (.c (.bool x2_140)), .u (.c (.bool x2_141)), .u (.c (.bool x2_142)), .u (.c (.bool x2_143))]),(3, .h 10000),(8, .val (.c (.int .i64 x8)))]) [.oa out]
def y67_2(M:YM)(g:U)(x2_0 x2_1 x2_2 x2_3 x2_4 x2_5 x2_6 x2_7 x2_8 x2_9 x2_10 x2_11 x2_12 x2_13 x2_14 x2_15 x2_16 x2_17 x2_18 x2_19 x2_20 x2_21 x2_22 x2_23 x2_24 x2_25 x2_26 x2_27 x2_28 x2_29 x2_30 x2_31 x2_32 x2_33 x2_34 x2_35 x2_36 x2_37 x2_38 x2_39 x2_40 x2_41 x2_42 x2_43 x2_44 x2_45 x2_46 x2_47 x2_48 x2_49 x2_50 x2_51 x2_52 x2_53 x2_54 x2_55 x2_56 x2_57 x2_58 x2_59 x2_60 x2_61 x2_62 x2_63 x2_64 x2_65 x2_66 x2_67 x2_68 x2_69 x2_70 x2_71 x2_72 x2_73 x2_74 x2_75 x2_76 x2_77 x2_78 x2_79 x2_80 x2_81 x2_82 x2_83 x2_84 x2_85 x2_86 x2_87 x2_88 x2_89 x2_90 x2_91 x2_92 x2_93 x2_94 x2_95 x2_96 x2_97 x2_98 x2_99 x2_100 x2_101 x2_102 x2_103 x2_104 x2_105 x2_106 x2_107 x2_108 x2_109 x2_110 x2_111 x2_112 x2_113 x2_114 x2_115 x2_116 x2_117 x2_118 x2_119 x2_120 x2_121 x2_122 x2_123 x2_124 x2_125 x2_126 x2_127 x2_128 x2_129 x2_130 x2_131 x2_132 x2_133 x2_134 x2_135 x2_136 x2_137 x2_138 x2_139 x2_140 x2_141 x2_142 x2_143:Bool)(a x8 x15 x16:Int)(out:U):YRs:=yrunM M 67 2 (yz 39 [(0, .val g),(2, .loc [.u (.c (.bool x2_0)), .u (.c (.bool x2_1)), .u (.c (.bool x2_2)), .u (.c (.bool x2_3)), .u (.c (.bool x2_4)), .u (.c (.bool x2_5)), .u (.c (.bool x2_6)), .u (.c (.bool x2_7)), .u (.c (.bool x2_8)), .u (.c (.bool x2_9)), .u (.c (.bool x2_10)), .u (.c (.bool x2_11)), .u (.c (.bool x2_12)), .u (.c (.bool x2_13)), .u (.c (.bool x2_14)), .u (.c (.bool x2_15)), .u (.c (.bool x2_16)), .u (.c (.bool x2_17)), .u (.c (.bool x2_18)), .u (.c (.bool x2_19)), .u (.c (.bool x2_20)), .u (.c (.bool x2_21)), .u (.c (.bool x2_22)), .u (.c (.bool x2_23)), .u (.c (.bool x2_24)), .u (.c (.bool x2_25)), .u (.c (.bool x2_26)), .u (.c (.bool x2_27)), .u (.c (.bool x2_28)), .u (.c (.bool x2_29)), .u (.c (.bool x2_30)), .u (.c (.bool x2_31)), .u (.c (.bool x2_32)), .u (.c (.bool x2_33)), .u (.c (.bool x2_34)), .u (.c (.bool x2_35)), .u (.c (.bool x2_36)), .u (.c (.bool x2_37)), .u (.c (.bool x2_38)), .u (.c (.bool x2_39)), .u (.c (.bool x2_40)), .u (.c (.bool x2_41)), .u (.c (.bool x2_42)), .u (.c (.bool x2_43)), .u (.c (.bool x2_44)), .u (.c (.bool x2_45)), .u (.c (.bool x2_46)), .u (.c (.bool x2_47)), .u (.c (.bool x2_48)), .u (.c (.bool x2_49)), .u (.c (.bool x2_50)), .u (.c (.bool x2_51)), .u (.c (.bool x2_52)), .u (.c (.bool x2_53)), .u (.c (.bool x2_54)), .u (.c (.bool x2_55)), .u (.c (.bool x2_56)), .u (.c (.bool x2_57)), .u (.c (.bool x2_58)), .u (.c (.bool x2_59)), .u (.c (.bool x2_60)), .u (.c (.bool x2_61)), .u (.c (.bool x2_62)), .u (.c (.bool x2_63)), .u (.c (.bool x2_64)), .u (.c (.bool x2_65)), .u (.c (.bool x2_66)), .u (.c (.bool x2_67)), .u (.c (.bool x2_68)), .u (.c (.bool x2_69)), .u (.c (.bool x2_70)), .u (.c (.bool x2_71)), .u (.c (.bool x2_72)), .u (.c (.bool x2_73)), .u (.c (.bool x2_74)), .u (.c (.bool x2_75)), .u (.c (.bool x2_76)), .u (.c (.bool x2_77)), .u (.c (.bool x2_78)), .u (.c (.bool x2_79)), .u (.c (.bool x2_80)), .u (.c (.bool x2_81)), .u (.c (.bool x2_82)), .u (.c (.bool x2_83)), .u (.c (.bool x2_84)), .u (.c (.bool x2_85)), .u (.c (.bool x2_86)), .u (.c (.bool x2_87)), .u (.c (.bool x2_88)), .u (.c (.bool x2_89)), .u (.c (.bool x2_90)), .u (.c (.bool x2_91)), .u (.c (.bool x2_92)), .u (.c (.bool x2_93)), .u (.c (.bool x2_94)), .u (.c (.bool x2_95)), .u (.c (.bool x2_96)), .u (.c (.bool x2_97)), .u (.c (.bool x2_98)), .u (.c (.bool x2_99)), .u (.c (.bool x2_100)), .u (.c (.bool x2_101)), .u (.c (.bool x2_102)), .u (.c (.bool x2_103)), .u (.c (.bool x2_104)), .u (.c (.bool x2_105)), .u (.c (.bool x2_106)), .u (.c (.bool x2_107)), .u (.c (.bool x2_108)), .u (.c (.bool x2_109)), .u (.c (.bool x2_110)), .u (.c (.bool x2_111)), .u (.c (.bool x2_112)), .u (.c (.bool x2_113)), .u (.c (.bool x2_114)), .u (.c (.bool x2_115)), .u (.c (.bool x2_116)), .u (.c (.bool x2_117)), .u (.c (.bool x2_118)), .u (.c (.bool x2_119)), .u (.c (.bool x2_120)), .u (.c (.bool x2_121)), .u (.c (.bool x2_122)), .u (.c (.bool x2_123)), .u (.c (.bool x2_124)), .u (.c (.bool x2_125)), .u (.c (.bool x2_126)), .u (.c (.bool x2_127)), .u (.c (.bool x2_128)), .u (.c (.bool x2_129)), .u (.c (.bool x2_130)), .u (.c (.bool x2_131)), .u (.c (.bool x2_132)), .u (.c (.bool x2_133)), .u (.c (.bool x2_134)), .u (.c (.bool x2_135)), .u (.c (.bool x2_136)), .u (.c (.bool x2_137)), .u (.c (.bool x2_138)), .u (.c (.bool x2_139)), .u (.c (.bool x2_140)), .u (.c (.bool x2_141)), .u (.c (.bool x2_142)), .u (.c (.bool x2_143))]),(3, .h 10000),(4, .val (.c (.int .i64 a))),(8, .val (.c (.int .i64 x8))),(15, .val (.c (.int .i64 x15))),(16, .val (.c (.int .i64 x16)))]) [.oa out]
def y68(M:YM)(holds:Bool)(e:Int):YRs:=yrunM M 68 0 ([.val (.c (.bool holds)), .val (.c (.int .i64 e))]) []
def y69(M:YM)(n lo hi:Int):YRs:=yrunM M 69 0 ([.val (.c (.int .i64 n)), .val (.c (.int .i64 lo)), .val (.c (.int .i64 hi))]) []
def y70(M:YM)(g:U)(a b:Int):YRs:=yrunM M 70 0 ([.val g, .val (.c (.int .i64 a)), .val (.c (.int .i64 b))]) []
def y70_1(M:YM)(g:U)(a b x6_0 x6_1 x6_2 x6_3 x26 x27:Int):YRs:=yrunM M 70 1 (yz 217 [(0, .val g),(1, .val (.c (.int .i64 a))),(2, .val (.c (.int .i64 b))),(6, .loc [.u (.c (.int .i64 x6_0)), .u (.c (.int .i64 x6_1)), .u (.c (.int .i64 x6_2)), .u (.c (.int .i64 x6_3))]),(26, .val (.c (.int .i64 x26))),(27, .val (.c (.int .i64 x27)))]) []
def y70_2(M:YM)(g:U)(a b x6_0 x6_1 x6_2 x6_3 s x26 x27:Int)(x62:U)(x63 x64:Int):YRs:=yrunM M 70 2 (yz 217 [(0, .val g),(1, .val (.c (.int .i64 a))),(2, .val (.c (.int .i64 b))),(6, .loc [.u (.c (.int .i64 x6_0)), .u (.c (.int .i64 x6_1)), .u (.c (.int .i64 x6_2)), .u (.c (.int .i64 x6_3))]),(8, .val (.c (.int .i64 s))),(26, .val (.c (.int .i64 x26))),(27, .val (.c (.int .i64 x27))),(62, .val x62),(63, .val (.c (.int .i64 x63))),(64, .val (.c (.int .i64 x64)))]) []
def y70_3(M:YM)(g:U)(a b x6_0 x6_1 x6_2 x6_3 s i x26 x27:Int)(x62:U)(x63 x64:Int)(x76:U)(x77 x78:Int):YRs:=yrunM M 70 3 (yz 217 [(0, .val g),(1, .val (.c (.int .i64 a))),(2, .val (.c (.int .i64 b))),(6, .loc [.u (.c (.int .i64 x6_0)), .u (.c (.int .i64 x6_1)), .u (.c (.int .i64 x6_2)), .u (.c (.int .i64 x6_3))]),(8, .val (.c (.int .i64 s))),(10, .val (.c (.int .i64 i))),(26, .val (.c (.int .i64 x26))),(27, .val (.c (.int .i64 x27))),(62, .val x62),(63, .val (.c (.int .i64 x63))),(64, .val (.c (.int .i64 x64))),(76, .val x76),(77, .val (.c (.int .i64 x77))),(78, .val (.c (.int .i64 x78)))]) []
def y70_4(M:YM)(g:U)(a b x6_0 x6_1 x6_2 x6_3 s x26 x27:Int)(x119:U)(x120 x121:Int):YRs:=yrunM M 70 4 (yz 217 [(0, .val g),(1, .val (.c (.int .i64 a))),(2, .val (.c (.int .i64 b))),(6, .loc [.u (.c (.int .i64 x6_0)), .u (.c (.int .i64 x6_1)), .u (.c (.int .i64 x6_2)), .u (.c (.int .i64 x6_3))]),(8, .val (.c (.int .i64 s))),(26, .val (.c (.int .i64 x26))),(27, .val (.c (.int .i64 x27))),(119, .val x119),(120, .val (.c (.int .i64 x120))),(121, .val (.c (.int .i64 x121)))]) []
def y70_5(M:YM)(g:U)(a b x6_0 x6_1 x6_2 x6_3 s i x26 x27:Int)(x119:U)(x120 x121:Int)(x141:U)(x142 x143:Int):YRs:=yrunM M 70 5 (yz 217 [(0, .val g),(1, .val (.c (.int .i64 a))),(2, .val (.c (.int .i64 b))),(6, .loc [.u (.c (.int .i64 x6_0)), .u (.c (.int .i64 x6_1)), .u (.c (.int .i64 x6_2)), .u (.c (.int .i64 x6_3))]),(8, .val (.c (.int .i64 s))),(14, .val (.c (.int .i64 i))),(26, .val (.c (.int .i64 x26))),(27, .val (.c (.int .i64 x27))),(119, .val x119),(120, .val (.c (.int .i64 x120))),(121, .val (.c (.int .i64 x121))),(141, .val x141),(142, .val (.c (.int .i64 x142))),(143, .val (.c (.int .i64 x143)))]) []
def y70_6(M:YM)(g:U)(a b x6_0 x6_1 x6_2 x6_3 s x26 x27:Int)(x167:U)(x168 x169:Int)(found:Sx):YRs:=yrunM M 70 6 (yz 217 [(0, .val g),(1, .val (.c (.int .i64 a))),(2, .val (.c (.int .i64 b))),(6, .loc [.u (.c (.int .i64 x6_0)), .u (.c (.int .i64 x6_1)), .u (.c (.int .i64 x6_2)), .u (.c (.int .i64 x6_3))]),(8, .val (.c (.int .i64 s))),(17, .h 10000),(26, .val (.c (.int .i64 x26))),(27, .val (.c (.int .i64 x27))),(167, .val x167),(168, .val (.c (.int .i64 x168))),(169, .val (.c (.int .i64 x169)))]) [.sl found]
def y70_7(M:YM)(g:U)(a b x6_0 x6_1 x6_2 x6_3 s k x26 x27:Int)(x167:U)(x168 x169:Int)(x189:U)(x190 x191:Int)(found:Sx):YRs:=yrunM M 70 7 (yz 217 [(0, .val g),(1, .val (.c (.int .i64 a))),(2, .val (.c (.int .i64 b))),(6, .loc [.u (.c (.int .i64 x6_0)), .u (.c (.int .i64 x6_1)), .u (.c (.int .i64 x6_2)), .u (.c (.int .i64 x6_3))]),(8, .val (.c (.int .i64 s))),(17, .h 10000),(19, .val (.c (.int .i64 k))),(26, .val (.c (.int .i64 x26))),(27, .val (.c (.int .i64 x27))),(167, .val x167),(168, .val (.c (.int .i64 x168))),(169, .val (.c (.int .i64 x169))),(189, .val x189),(190, .val (.c (.int .i64 x190))),(191, .val (.c (.int .i64 x191)))]) [.sl found]
def y70_8(M:YM)(g:U)(a b x6_0 x6_1 x6_2 x6_3 s k x26 x27:Int)(x167:U)(x168 x169:Int)(x189:U)(x190 x191:Int)(found:Sx):YRs:=yrunM M 70 8 (yz 217 [(0, .val g),(1, .val (.c (.int .i64 a))),(2, .val (.c (.int .i64 b))),(6, .loc [.u (.c (.int .i64 x6_0)), .u (.c (.int .i64 x6_1)), .u (.c (.int .i64 x6_2)), .u (.c (.int .i64 x6_3))]),(8, .val (.c (.int .i64 s))),(17, .h 10000),(19, .val (.c (.int .i64 k))),(26, .val (.c (.int .i64 x26))),(27, .val (.c (.int .i64 x27))),(167, .val x167),(168, .val (.c (.int .i64 x168))),(169, .val (.c (.int .i64 x169))),(189, .val x189),(190, .val (.c (.int .i64 x190))),(191, .val (.c (.int .i64 x191)))]) [.sl found]
def y71(M:YM)(g_0:Int)(g_1 g_2:U)(s a:Int):YRs:=yrunM M 71 0 ([.val (.st [.c (.int .i64 g_0),g_1,g_2]), .val (.c (.int .i64 s)), .val (.c (.int .i64 a))]) []
def y71_1(M:YM)(s a g_0:Int)(g_1 g_2:U)(i:Int)(out:Sx):YRs:=yrunM M 71 1 (yz 39 [(1, .val (.c (.int .i64 s))),(2, .val (.c (.int .i64 a))),(3, .loc [.u (.c (.int .i64 g_0)), .u g_1, .u g_2]),(7, .h 10000),(8, .val (.c (.int .i64 i)))]) [.sl out]
def y71_2(M:YM)(s a g_0:Int)(g_1 g_2:U)(i:Int)(out:Sx):YRs:=yrunM M 71 2 (yz 39 [(1, .val (.c (.int .i64 s))),(2, .val (.c (.int .i64 a))),(3, .loc [.u (.c (.int .i64 g_0)), .u g_1, .u g_2]),(7, .h 10000),(8, .val (.c (.int .i64 i)))]) [.sl out]
def y72(M:YM)(g_0:Int)(g_1 g_2:U)(x y:Int):YRs:=yrunM M 72 0 ([.val (.st [.c (.int .i64 g_0),g_1,g_2]), .val (.c (.int .i64 x)), .val (.c (.int .i64 y))]) []
def y72_1(M:YM)(g_0:Int)(g_1 g_2:U)(t_0 t_1 t_2 u_0 u_1 u_2 v:Int):YRs:=yrunM M 72 1 (yz 42 [(3, .loc [.u (.c (.int .i64 g_0)), .u g_1, .u g_2]),(7, .loc [.u (.c (.int .i64 t_0)), .u (.c (.int .i64 t_1)), .u (.c (.int .i64 t_2))]),(8, .loc [.u (.c (.int .i64 u_0)), .u (.c (.int .i64 u_1)), .u (.c (.int .i64 u_2))]),(9, .val (.c (.int .i64 v)))]) []
def y73(M:YM)(g_0:Int)(g_1 g_2:U)(x y:Int):YRs:=yrunM M 73 0 ([.val (.st [.c (.int .i64 g_0),g_1,g_2]), .val (.c (.int .i64 x)), .val (.c (.int .i64 y))]) []
def y73_1(M:YM)(g_0:Int)(g_1 g_2:U)(first_0 first_1 first_2 second_0 second_1 second_2 u:Int):YRs:=yrunM M 73 1 (yz 42 [(3, .loc [.u (.c (.int .i64 g_0)), .u g_1, .u g_2]),(7, .loc [.u (.c (.int .i64 first_0)), .u (.c (.int .i64 first_1)), .u (.c (.int .i64 first_2))]),(8, .loc [.u (.c (.int .i64 second_0)), .u (.c (.int .i64 second_1)), .u (.c (.int .i64 second_2))]),(9, .val (.c (.int .i64 u)))]) []
def y74(M:YM)(g:U)(s:Int):YRs:=yrunM M 74 0 ([.val g, .val (.c (.int .i64 s))]) []
def y74_1(M:YM)(x14_0 x14_1 x14_2 x14_3 x14_4 x14_5 x14_6 x14_7 x14_8 x14_9 x14_10 x14_11:U)(x15:Int)(out:Sx):YRs:=yrunM M 74 1 (yz 28 [(5, .h 10000),(14, .val (.st [x14_0,x14_1,x14_2,x14_3,x14_4,x14_5,x14_6,x14_7,x14_8,x14_9,x14_10,x14_11])),(15, .val (.c (.int .i64 x15)))]) [.sl out]
def y74_2(M:YM)(x14_0 x14_1 x14_2 x14_3 x14_4 x14_5 x14_6 x14_7 x14_8 x14_9 x14_10 x14_11:U)(x15:Int)(out:Sx):YRs:=yrunM M 74 2 (yz 28 [(5, .h 10000),(14, .val (.st [x14_0,x14_1,x14_2,x14_3,x14_4,x14_5,x14_6,x14_7,x14_8,x14_9,x14_10,x14_11])),(15, .val (.c (.int .i64 x15)))]) [.sl out]
def y78(M:YM)(a_0 a_1 a_2 b_0 b_1 b_2:Int):YRs:=yrunM M 78 0 ([.val (.st [.c (.int .i64 a_0), .c (.int .i64 a_1), .c (.int .i64 a_2)]), .val (.st [.c (.int .i64 b_0), .c (.int .i64 b_1), .c (.int .i64 b_2)])]) []
def y79(M:YM)(s f:U):YRs:=yrunM M 79 0 ([.val s, .val f]) []
def y80(M:YM)(n:Int):YRs:=yrunM M 80 0 ([.val (.c (.int .i64 n))]) []
def y82(M:YM)(s f:U):YRs:=yrunM M 82 0 ([.val s, .val f]) []
def y82_1(M:YM)(s f:U)(x7 x8:Int):YRs:=yrunM M 82 1 (yz 19 [(0, .val s),(1, .val f),(7, .val (.c (.int .i64 x7))),(8, .val (.c (.int .i64 x8)))]) []
def y83(M:YM)(a:Int)(x1:U):YRs:=yrunM M 83 0 ([.val (.c (.int .i64 a)), .val x1]) []
def y84(M:YM)(c:U)(s:Int):YRs:=yrunM M 84 0 ([.val c, .val (.c (.int .i64 s))]) []
def y85(M:YM)(x_0 x_1 x_2:Int)(x1:U):YRs:=yrunM M 85 0 ([.val (.st [.c (.int .i64 x_0), .c (.int .i64 x_1), .c (.int .i64 x_2)]), .val x1]) []
def y86(M:YM)(c:U)(s a:Int):YRs:=yrunM M 86 0 ([.val c, .val (.c (.int .i64 s)), .val (.c (.int .i64 a))]) []
def y88(M:YM)(a b:U):YRs:=yrunM M 88 0 ([.val a, .val b]) []
def y88_1(M:YM)(a b:U)(i:Int):YRs:=yrunM M 88 1 (yz 52 [(0, .val a),(1, .val b),(5, .val (.c (.int .i64 i)))]) []
def y89(M:YM)(x_0 x_1 x_2:Int):YRs:=yrunM M 89 0 ([.val (.st [.c (.int .i64 x_0), .c (.int .i64 x_1), .c (.int .i64 x_2)])]) []
def y90(M:YM)(g_0:Int)(g_1 g_2:U)(s:Int):YRs:=yrunM M 90 0 ([.val (.st [.c (.int .i64 g_0),g_1,g_2]), .val (.c (.int .i64 s))]) []
def y90_1(M:YM)(s g_0:Int)(g_1 g_2:U)(a:Int)(out:Sx):YRs:=yrunM M 90 1 (yz 18 [(1, .val (.c (.int .i64 s))),(2, .loc [.u (.c (.int .i64 g_0)), .u g_1, .u g_2]),(5, .h 10000),(6, .val (.c (.int .i64 a)))]) [.sl out]
def y91(M:YM)(free:U)(a:Int)(l:U):YRs:=yrunM M 91 0 ([.val free, .val (.c (.int .i64 a)), .val l]) []
def y91_1(M:YM)(free:U)(a:Int)(l:U)(i:Int):YRs:=yrunM M 91 1 (yz 24 [(0, .val free),(1, .val (.c (.int .i64 a))),(2, .val l),(7, .val (.c (.int .i64 i)))]) []
def y92(M:YM)(s:U)(v:Int):YRs:=yrunM M 92 0 ([.val s, .val (.c (.int .i64 v))]) []
def y92_1(M:YM)(s:U)(v x7 x8:Int):YRs:=yrunM M 92 1 (yz 19 [(0, .val s),(1, .val (.c (.int .i64 v))),(7, .val (.c (.int .i64 x7))),(8, .val (.c (.int .i64 x8)))]) []
def y93(M:YM)(g:U)(s a u b:Int):YRs:=yrunM M 93 0 ([.val g, .val (.c (.int .i64 s)), .val (.c (.int .i64 a)), .val (.c (.int .i64 u)), .val (.c (.int .i64 b))]) []
def y93_1(M:YM)(g:U)(u b:Int)(x21:U)(x22 x23:Int):YRs:=yrunM M 93 1 (yz 41 [(0, .val g),(3, .val (.c (.int .i64 u))),(4, .val (.c (.int .i64 b))),(21, .val x21),(22, .val (.c (.int .i64 x22))),(23, .val (.c (.int .i64 x23)))]) []
def y94(M:YM)(g:U)(s a b:Int):YRs:=yrunM M 94 0 ([.val g, .val (.c (.int .i64 s)), .val (.c (.int .i64 a)), .val (.c (.int .i64 b))]) []
def y95(M:YM)(x cmp:U):YRs:=yrunM M 95 0 ([.val x, .val cmp]) []
def y95_1(M:YM)(x cmp:U)(x4_0 x4_1 x4_2 x4_3:Int):YRs:=yrunM M 95 1 (yz 33 [(0, .val x),(1, .val cmp),(4, .loc [.u (.c (.int .i64 x4_0)), .u (.c (.int .i64 x4_1)), .u (.c (.int .i64 x4_2)), .u (.c (.int .i64 x4_3))])]) []
def y95_2(M:YM)(x cmp:U)(x4_0 x4_1 x4_2 x4_3 m_0 m_1 m_2 m_3 i:Int):YRs:=yrunM M 95 2 (yz 33 [(0, .val x),(1, .val cmp),(4, .loc [.u (.c (.int .i64 x4_0)), .u (.c (.int .i64 x4_1)), .u (.c (.int .i64 x4_2)), .u (.c (.int .i64 x4_3))]),(5, .loc [.u (.c (.int .i64 m_0)), .u (.c (.int .i64 m_1)), .u (.c (.int .i64 m_2)), .u (.c (.int .i64 m_3))]),(6, .val (.c (.int .i64 i)))]) []
def y95_3(M:YM)(x cmp:U)(x4_0 x4_1 x4_2 x4_3 m_0 m_1 m_2 m_3 i:Int):YRs:=yrunM M 95 3 (yz 33 [(0, .val x),(1, .val cmp),(4, .loc [.u (.c (.int .i64 x4_0)), .u (.c (.int .i64 x4_1)), .u (.c (.int .i64 x4_2)), .u (.c (.int .i64 x4_3))]),(5, .loc [.u (.c (.int .i64 m_0)), .u (.c (.int .i64 m_1)), .u (.c (.int .i64 m_2)), .u (.c (.int .i64 m_3))]),(6, .val (.c (.int .i64 i)))]) []
def y96(M:YM)(x_0 x_1 x_2 x_3 y_0 y_1 y_2 y_3:Int):YRs:=yrunM M 96 0 ([.val (.st [.c (.int .i64 x_0), .c (.int .i64 x_1), .c (.int .i64 x_2), .c (.int .i64 x_3)]), .val (.st [.c (.int .i64 y_0), .c (.int .i64 y_1), .c (.int .i64 y_2), .c (.int .i64 y_3)])]) []
def y97(M:YM)(vals:U):YRs:=yrunM M 97 0 ([.val vals]) []
def y97_1(M:YM)(zero:Int)(x6:U)(x7 x8:Int):YRs:=yrunM M 97 1 (yz 18 [(3, .val (.c (.int .i64 zero))),(6, .val x6),(7, .val (.c (.int .i64 x7))),(8, .val (.c (.int .i64 x8)))]) []
def y98(M:YM)(x y:Int):YRs:=yrunM M 98 0 ([.val (.c (.int .i64 x)), .val (.c (.int .i64 y))]) []
def y99(M:YM)(g_0:Int)(g_1 g_2:U)(vfrom a to:Int):YRs:=yrunM M 99 0 ([.val (.st [.c (.int .i64 g_0),g_1,g_2]), .val (.c (.int .i64 vfrom)), .val (.c (.int .i64 a)), .val (.c (.int .i64 to))]) []
def y99_1(M:YM)(to g_0:Int)(g_1 g_2:U)(i:Int)(l:Sx):YRs:=yrunM M 99 1 (yz 32 [(3, .val (.c (.int .i64 to))),(4, .loc [.u (.c (.int .i64 g_0)), .u g_1, .u g_2]),(9, .h 10000),(10, .val (.c (.int .i64 i)))]) [.sl l]
def y100(M:YM)(a:Int)(x1 x2:U):YRs:=yrunM M 100 0 ([.val (.c (.int .i64 a)), .val x1, .val x2]) []
def y101(M:YM)(b:Int)(x1 x2:U):YRs:=yrunM M 101 0 ([.val (.c (.int .i64 b)), .val x1, .val x2]) []
def y102(M:YM)(c:U)(s:Int):YRs:=yrunM M 102 0 ([.val c, .val (.c (.int .i64 s))]) []
def y102_1(M:YM)(c:U)(s x9:Int)(out:Sx):YRs:=yrunM M 102 1 (yz 46 [(0, .val c),(1, .val (.c (.int .i64 s))),(5, .h 10000),(9, .val (.c (.int .i64 x9)))]) [.sl out]
def y102_2(M:YM)(c:U)(s x9:Int)(x23:U)(x24 x25:Int)(out:Sx):YRs:=yrunM M 102 2 (yz 46 [(0, .val c),(1, .val (.c (.int .i64 s))),(5, .h 10000),(9, .val (.c (.int .i64 x9))),(23, .val x23),(24, .val (.c (.int .i64 x24))),(25, .val (.c (.int .i64 x25)))]) [.sl out]
def y103(M:YM)(s1 s2:U):YRs:=yrunM M 103 0 ([.val s1, .val s2]) []
def y103_1(M:YM)(s1 s2 x9:U)(x10 x11:Int):YRs:=yrunM M 103 1 (yz 36 [(0, .val s1),(1, .val s2),(9, .val x9),(10, .val (.c (.int .i64 x10))),(11, .val (.c (.int .i64 x11)))]) []
def y104(M:YM)(x_0 x_1 x_2:Int)(x1 x2:U):YRs:=yrunM M 104 0 ([.val (.st [.c (.int .i64 x_0), .c (.int .i64 x_1), .c (.int .i64 x_2)]), .val x1, .val x2]) []
def y105(M:YM)(s1 s2:U):YRs:=yrunM M 105 0 ([.val s1, .val s2]) []
def y105_1(M:YM)(s1 s2:U)(x12 x13:Int):YRs:=yrunM M 105 1 (yz 26 [(0, .val s1),(1, .val s2),(12, .val (.c (.int .i64 x12))),(13, .val (.c (.int .i64 x13)))]) []
def y106(M:YM)(p_0:U)(p_1 x_0 x_1 x_2:Int):YRs:=yrunM M 106 0 ([.val (.st [p_0, .c (.int .i64 p_1)]), .val (.st [.c (.int .i64 x_0), .c (.int .i64 x_1), .c (.int .i64 x_2)])]) []
def y107(M:YM)(is:Bool):YRs:=yrunM M 107 0 ([.val (.c (.bool is))]) []
def y108(M:YM)(g:U)(vfrom to action:Int):YRs:=yrunM M 108 0 ([.val g, .val (.c (.int .i64 vfrom)), .val (.c (.int .i64 to)), .val (.c (.int .i64 action))]) []
def y109(M:YM)(i:Int)(x1 x2 x3:U):YRs:=yrunM M 109 0 ([.val (.c (.int .i64 i)), .val x1, .val x2, .val x3]) []
def y110(M:YM)(x:Int):YRs:=yrunM M 110 0 ([.val (.c (.int .i64 x))]) []
def y111(M:YM)(x:U)(target_0 target_1 target_2:Int)(cmp:U):YRs:=yrunM M 111 0 ([.val x, .val (.st [.c (.int .i64 target_0), .c (.int .i64 target_1), .c (.int .i64 target_2)]), .val cmp]) []
def y111_1(M:YM)(x cmp:U)(target_0 target_1 target_2 n i j:Int):YRs:=yrunM M 111 1 (yz 49 [(0, .val x),(2, .val cmp),(4, .loc [.u (.c (.int .i64 target_0)), .u (.c (.int .i64 target_1)), .u (.c (.int .i64 target_2))]),(8, .val (.c (.int .i64 n))),(9, .val (.c (.int .i64 i))),(10, .val (.c (.int .i64 j)))]) []
def y111_2(M:YM)(x cmp:U)(target_0 target_1 target_2 n i j:Int):YRs:=yrunM M 111 2 (yz 49 [(0, .val x),(2, .val cmp),(4, .loc [.u (.c (.int .i64 target_0)), .u (.c (.int .i64 target_1)), .u (.c (.int .i64 target_2))]),(8, .val (.c (.int .i64 n))),(9, .val (.c (.int .i64 i))),(10, .val (.c (.int .i64 j)))]) []
def y10(M:YM):YRs:=yrunM M 10 0 [] []
def y40(M:YM)(x_0:Int)(x_1 x_2 labels:U):YRs:=yrunM M 40 0 [.val (.st [.c (.int .i64 x_0),x_1,x_2]), .val labels] []
def y61(M:YM)(g_0:Int)(g_1 g_2:U):YRs:=yrunM M 61 0 [.val (.st [.c (.int .i64 g_0),g_1,g_2])] []
def y54(M:YM)(c:U)(s:Int):YRs:=yrunM M 54 0 [.val c, .val (.c (.int .i64 s))] []
def y81(M:YM)(c:U)(s:Int):YRs:=yrunM M 81 0 [.val c, .val (.c (.int .i64 s))] []
theorem X1o(M:YM)(g_0:Int)(g_1 g_2 labels:U):y7 M g_0 g_1 g_2 labels=
 (y10 M).bind fun r1=>
 r1.toU.bind fun u2=>
 u2.asB.bind fun b3=>
 (if(!b3)=true then
 some (.val (.c (.bool false)))
 else
 (y11 M g_0 g_1 g_2).bind fun r4=>
 r4.toU.bind fun u5=>
 u5.asB.bind fun b6=>
 (if(!b6)=false then
 labels.len.bind fun k7=>
 some (decide (62<((k7:Nat):Int)))
 else
 some (!b6)).bind fun q8=>
 (if q8=true then
 some (.val (.c (.bool true)))
 else
 (y14 M g_0 g_1 g_2).bind fun r9=>
 r9.toU.bind fun u10=>
 (u10.exact ks1).bind fun f11=>
 (y15 M labels).bind fun r12=>
 r12.asSl.bind fun s13=>
 (y40 M ((f11 0).i) (f11 1) (f11 2) (Sx.fz s13)).bind fun r14=>
 r14.asTup.bind fun t15=>
 (t15[0]?).bind fun u16=>
 u16.one.bind fun u17=>
 (t15[1]?).bind fun u18=>
 (u18.asI .i64).bind fun n19=>
 (y17 M g_0 g_1 g_2).bind fun r20=>
 r20.toU.bind fun u21=>
 (u21.asI .i64).bind fun n22=>
 (if(decide (n22=0))=true then
 (y18 M g_0 g_1 g_2 labels).bind fun r23=>
 r23.toU.bind fun u24=>
 (u24.asI .i64).bind fun n25=>
 y7_1 M labels g_0 g_1 g_2 u17 n19 n25
 else
 y7_1 M labels g_0 g_1 g_2 u17 n19 n22))):=yq (by kernel_rfl)
theorem Z1u(M:YM)(labels:U)(g_0:Int)(g_1 g_2 c:U)(e d:Int):y7_1 M labels g_0 g_1 g_2 c e d=
 (if(!decide (d=0))=true then
 (if(decide (e=d))=true then
 c.len.bind fun k1=>
 some (decide (((k1:Nat):Int)=0))
 else
 some (decide (e=d))).bind fun q2=>
 some (.val (.c (.bool q2)))
 else
 (if(!decide (e=0))=false then
 (y19 M g_0 g_1 g_2 c).bind fun r3=>
 r3.toU.bind fun u4=>
 (u4.asI .i64).bind fun n5=>
 some (!decide (n5=0))
 else
 some (!decide (e=0))).bind fun q6=>
 (if q6=true then
 some (.val (.c (.bool false)))
 else
 (y21 M g_0 g_1 g_2 labels c).bind fun r7=>
 r7.asTup.bind fun t8=>
 (t8[0]?).bind fun u9=>
 (u9.exact ks6).bind fun f10=>
 (t8[1]?).bind fun u11=>
 u11.asB.bind fun b12=>
 (if b12=true then
 some (.val (.c (.bool false)))
 else
 (y41 M g_0 g_1 g_2).bind fun r13=>
 r13.toU.bind fun u14=>
 u14.asB.bind fun b15=>
 (if b15=true then
 some (.val (.c (.bool true)))
 else
 (y36 M g_0 g_1 g_2).bind fun r16=>
 r16.asSl.bind fun s17=>
 (y32 M g_0 g_1 g_2 labels).bind fun r18=>
 r18.asSl.bind fun s19=>
 y7_2 M g_0 g_1 g_2 c 0 s17 s19)))):=yq (by kernel_rfl)
theorem k1l(M:YM)(g_0:Int)(g_1 g_2 c:U)(s:Int)(free shown:Sx):y7_2 M g_0 g_1 g_2 c s free shown=
 (if(decide (s<g_0))=true then
 (y42 M g_0 g_1 g_2 s).bind fun r1=>
 r1.asSl.bind fun s2=>
 y7_3 M g_0 g_1 g_2 c s 0 free shown s2
 else
 some (.val (.c (.bool true)))):=yq (by kernel_rfl)
theorem k1m(M:YM)(g_0:Int)(g_1 g_2 c:U)(s i:Int)(free shown l:Sx):y7_3 M g_0 g_1 g_2 c s i free shown l=
 (if(decide (i<(((l.es).length:Nat):Int)))=true then
 (if Sx.has l 1 i=true then
 ((l.es)[i.toNat]?).bind fun v1=>
 (v1.cell 0).bind fun c2=>
 (c2.asI .i64).bind fun n3=>
 (y39 M (Sx.fz shown) n3).bind fun r4=>
 r4.toU.bind fun u5=>
 u5.asB.bind fun b6=>
 (if(!b6)=true then
 (if Sx.has l 1 i=true then
 (if Sx.has l 1 i=true then
 ((l.es)[i.toNat]?).bind fun v7=>
 (v7.cell 0).bind fun c8=>
 (c8.asI .i64).bind fun n9=>
 (if Sx.has free 1 n9=true then
 ((free.es)[n9.toNat]?).bind fun v10=>
 (v10.cell 0).bind fun c11=>
 ((l.es)[i.toNat]?).bind fun v12=>
 (v12.cell 0).bind fun c13=>
 (c13.asI .i64).bind fun n14=>
 (y43 M g_0 g_1 g_2 c11 n14).bind fun r15=>
 r15.toU.bind fun u16=>
 u16.asB.bind fun b17=>
 some b17
 else
 none)
 else
 none)
 else
 none)
 else
 some (!b6)).bind fun q18=>
 (if q18=true then
 (c.idx 1 s).bind fun v19=>
 (v19.cell 0).bind fun c20=>
 c20.len.bind fun k21=>
 some (!decide (((k21:Nat):Int)=1))
 else
 some q18).bind fun q22=>
 (if q22=true then
 some (.val (.c (.bool false)))
 else
 y7_3 M g_0 g_1 g_2 c s (IntKind.wrap .i64 (i+1)) free shown l)
 else
 none)
 else
 y7_2 M g_0 g_1 g_2 c (IntKind.wrap .i64 (s+1)) free shown):=yq (by kernel_rfl)
theorem K1X(M:YM)(g_0:Int)(g_1 g_2:U):y11 M g_0 g_1 g_2=
 (if(decide (g_0<=8))=false then
 some (decide (60<g_0))
 else
 some (decide (g_0<=8))).bind fun q1=>
 (if q1=true then
 g_1.len.bind fun k2=>
 some (decide (((k2:Nat):Int)<=70))
 else
 some q1).bind fun q3=>
 (if q3=true then
 g_2.len.bind fun k4=>
 some (decide (((k4:Nat):Int)<=30))
 else
 some q3).bind fun q5=>
 some (.val (.c (.bool q5))):=yq (by kernel_rfl)
theorem K1Y(M:YM)(g_0:Int)(g_1 g_2:U):y14 M g_0 g_1 g_2=
 (y15 M g_1).bind fun r1=>
 r1.asSl.bind fun s2=>
 (U.asL g_2).bind fun l3=>
 (Sx.app (⟨true,3,[]⟩:Sx) 3 l3.2).bind fun s4=>
 some (.val (.st [.c (.int .i64 g_0),Sx.fz s2,Sx.fz s4])):=yq (by kernel_rfl)
theorem K1Z(M:YM)(l:U):y15 M l=
 (U.asL l).bind fun l1=>
 (Sx.app (⟨true,1,[]⟩:Sx) 1 l1.2).bind fun s2=>
 (if scals s2.es=true then
 some (.sl s2)
 else
 none):=yq (by kernel_rfl)
theorem W1a(M:YM)(g_0:Int)(g_1 g_2:U):y17 M g_0 g_1 g_2=
 (y55 M g_0 g_1 g_2).bind fun r1=>
 r1.toU.bind fun u2=>
 u2.asB.bind fun b3=>
 (if(!b3)=true then
 some (.val (.c (.int .i64 5)))
 else
 (if(decide (60<g_0))=true then
 some (.val (.c (.int .i64 2)))
 else
 some (.val (.c (.int .i64 0))))):=yq (by kernel_rfl)
theorem W1b(M:YM)(g_0:Int)(g_1 g_2 labels:U):y18 M g_0 g_1 g_2 labels=
 labels.len.bind fun k1=>
 (if(!decide (((k1:Nat):Int)=g_0))=true then
 some (.val (.c (.int .i64 6)))
 else
 y18_1 M labels 0):=yq (by kernel_rfl)
theorem X0I(M:YM)(labels:U)(i:Int):y18_1 M labels i=
 labels.len.bind fun k1=>
 (if(decide (i<((k1:Nat):Int)))=true then
 (labels.idx 1 i).bind fun v2=>
 (v2.cell 0).bind fun c3=>
 (c3.asI .i64).bind fun n4=>
 (y37 M n4 0 10000).bind fun r5=>
 r5.toU.bind fun u6=>
 u6.asB.bind fun b7=>
 (if(!b7)=true then
 some (.val (.c (.int .i64 3)))
 else
 y18_1 M labels (IntKind.wrap .i64 (i+1)))
 else
 some (.val (.c (.int .i64 0)))):=yq (by kernel_rfl)
theorem W1c(M:YM)(g_0:Int)(g_1 g_2 c:U):y19 M g_0 g_1 g_2 c=
 c.len.bind fun k1=>
 (if(!decide (((k1:Nat):Int)=g_0))=true then
 some (.val (.c (.int .i64 6)))
 else
 y19_1 M c g_0 g_1 g_2 0):=yq (by kernel_rfl)
theorem X0J(M:YM)(c:U)(g_0:Int)(g_1 g_2:U)(s:Int):y19_1 M c g_0 g_1 g_2 s=
 c.len.bind fun k1=>
 (if(decide (s<((k1:Nat):Int)))=true then
 y19_2 M c g_0 g_1 g_2 s 1
 else
 some (.val (.c (.int .i64 0)))):=yq (by kernel_rfl)
theorem X0K(M:YM)(c:U)(g_0:Int)(g_1 g_2:U)(s i:Int):y19_2 M c g_0 g_1 g_2 s i=
 (c.idx 1 s).bind fun v1=>
 (v1.cell 0).bind fun c2=>
 c2.len.bind fun k3=>
 (if(decide (i<((k3:Nat):Int)))=true then
 (c.idx 1 s).bind fun v4=>
 (c.idx 1 s).bind fun v5=>
 (v4.cell 0).bind fun c6=>
 (c6.idx 1 i).bind fun v7=>
 (v7.cell 0).bind fun c8=>
 (c8.asI .i64).bind fun n9=>
 (v5.cell 0).bind fun c10=>
 (c10.idx 1 (IntKind.wrap .i64 (i - 1))).bind fun v11=>
 (v11.cell 0).bind fun c12=>
 (c12.asI .i64).bind fun n13=>
 (if(decide (n9<=n13))=true then
 some (.val (.c (.int .i64 13)))
 else
 y19_2 M c g_0 g_1 g_2 s (IntKind.wrap .i64 (i+1)))
 else
 (y42 M g_0 g_1 g_2 s).bind fun r14=>
 r14.asSl.bind fun s15=>
 y19_3 M c g_0 g_1 g_2 s 0 s15):=yq (by kernel_rfl)
theorem X0L(M:YM)(c:U)(g_0:Int)(g_1 g_2:U)(s i:Int)(l:Sx):y19_3 M c g_0 g_1 g_2 s i l=
 (c.idx 1 s).bind fun v1=>
 (v1.cell 0).bind fun c2=>
 c2.len.bind fun k3=>
 (if(decide (i<((k3:Nat):Int)))=true then
 (c.idx 1 s).bind fun v4=>
 (v4.cell 0).bind fun c5=>
 (c5.idx 1 i).bind fun v6=>
 (v6.cell 0).bind fun c7=>
 (c7.asI .i64).bind fun n8=>
 (y39 M (Sx.fz l) n8).bind fun r9=>
 r9.toU.bind fun u10=>
 u10.asB.bind fun b11=>
 (if(!b11)=true then
 some (.val (.c (.int .i64 10)))
 else
 y19_3 M c g_0 g_1 g_2 s (IntKind.wrap .i64 (i+1)) l)
 else
 y19_1 M c g_0 g_1 g_2 (IntKind.wrap .i64 (s+1))):=yq (by kernel_rfl)
theorem W1d(M:YM)(g_0:Int)(g_1 g_2 labels c:U):y21 M g_0 g_1 g_2 labels c=
 (y36 M g_0 g_1 g_2).bind fun r1=>
 r1.asSl.bind fun s2=>
 (y32 M g_0 g_1 g_2 labels).bind fun r3=>
 r3.asSl.bind fun s4=>
 y21_1 M c g_0 g_1 g_2 0 0 0 (⟨false,0,[]⟩:Sx) s2 s4:=yq (by kernel_rfl)
theorem X0M(M:YM)(c:U)(g_0:Int)(g_1 g_2:U)(x6_0 x6_1 s:Int)(x6_2 free shown:Sx):y21_1 M c g_0 g_1 g_2 x6_0 x6_1 s x6_2 free shown=
 (if(decide (s<g_0))=true then
 (y42 M g_0 g_1 g_2 s).bind fun r1=>
 r1.asSl.bind fun s2=>
 (c.idx 1 s).bind fun v3=>
 (v3.cell 0).bind fun c4=>
 c4.len.bind fun k5=>
 (if(decide (((k5:Nat):Int)=0))=true then
 some (decide (0<(((s2.es).length:Nat):Int)))
 else
 some (decide (((k5:Nat):Int)=0))).bind fun q6=>
 (if q6=true then
 some (.tup [.st [.c (.int .i64 s), .c (.int .i64 1),Sx.fz (⟨false,0,[]⟩:Sx)], .c (.bool true)])
 else
 (y56 M g_0 g_1 g_2 c s).bind fun r7=>
 r7.toU.bind fun u8=>
 u8.asB.bind fun b9=>
 (if b9=true then
 y21_1 M c g_0 g_1 g_2 x6_0 x6_1 (IntKind.wrap .i64 (s+1)) x6_2 free shown
 else
 (c.idx 1 s).bind fun v10=>
 (v10.cell 0).bind fun c11=>
 (y57 M g_0 g_1 g_2 (Sx.fz free) s c11).bind fun r12=>
 r12.asSl.bind fun s13=>
 (if(decide (0<(((s13.es).length:Nat):Int)))=true then
 some (.tup [.st [.c (.int .i64 s), .c (.int .i64 2),Sx.fz s13], .c (.bool true)])
 else
 y21_2 M c g_0 g_1 g_2 x6_0 x6_1 s 0 x6_2 free shown)))
 else
 y21_3 M c g_0 g_1 g_2 x6_0 x6_1 0 x6_2):=yq (by kernel_rfl)
theorem X0N(M:YM)(c:U)(g_0:Int)(g_1 g_2:U)(x6_0 x6_1 s i:Int)(x6_2 free shown:Sx):y21_2 M c g_0 g_1 g_2 x6_0 x6_1 s i x6_2 free shown=
 (c.idx 1 s).bind fun v1=>
 (v1.cell 0).bind fun c2=>
 c2.len.bind fun k3=>
 (if(decide (i<((k3:Nat):Int)))=true then
 (c.idx 1 s).bind fun v4=>
 (v4.cell 0).bind fun c5=>
 (c5.idx 1 i).bind fun v6=>
 (v6.cell 0).bind fun c7=>
 (c7.asI .i64).bind fun n8=>
 (y39 M (Sx.fz shown) n8).bind fun r9=>
 r9.toU.bind fun u10=>
 u10.asB.bind fun b11=>
 (if b11=true then
 (c.idx 1 s).bind fun v12=>
 (v12.cell 0).bind fun c13=>
 (c13.idx 1 i).bind fun v14=>
 (v14.cell 0).bind fun c15=>
 (c15.asI .i64).bind fun n16=>
 some (.tup [.st [.c (.int .i64 s), .c (.int .i64 3),Sx.fz (⟨true,1,[.c (.int .i64 n16)]⟩:Sx)], .c (.bool true)])
 else
 y21_2 M c g_0 g_1 g_2 x6_0 x6_1 s (IntKind.wrap .i64 (i+1)) x6_2 free shown)
 else
 y21_1 M c g_0 g_1 g_2 x6_0 x6_1 (IntKind.wrap .i64 (s+1)) x6_2 free shown):=yq (by kernel_rfl)
theorem X0O(M:YM)(c:U)(g_0:Int)(g_1 g_2:U)(x6_0 x6_1 s:Int)(x6_2:Sx):y21_3 M c g_0 g_1 g_2 x6_0 x6_1 s x6_2=
 (if(decide (s<g_0))=true then
 (y58 M g_0 g_1 g_2 c s).bind fun r1=>
 r1.asSl.bind fun s2=>
 (if(decide (0<(((s2.es).length:Nat):Int)))=true then
 some (.tup [.st [.c (.int .i64 s), .c (.int .i64 4),Sx.fz s2], .c (.bool true)])
 else
 y21_3 M c g_0 g_1 g_2 x6_0 x6_1 (IntKind.wrap .i64 (s+1)) x6_2)
 else
 some (.tup [.st [.c (.int .i64 0), .c (.int .i64 0),Sx.fz (⟨false,0,[]⟩:Sx)], .c (.bool false)])):=yq (by kernel_rfl)
theorem W1e(M:YM)(a b:U):y27 M a b=
 a.len.bind fun k1=>
 b.len.bind fun k2=>
 (if(!decide (((k1:Nat):Int)=((k2:Nat):Int)))=true then
 some (.val (.c (.bool false)))
 else
 y27_1 M a b 0):=yq (by kernel_rfl)
theorem X0P(M:YM)(a b:U)(i:Int):y27_1 M a b i=
 a.len.bind fun k1=>
 (if(decide (i<((k1:Nat):Int)))=true then
 (a.idx 1 i).bind fun v2=>
 (b.idx 1 i).bind fun v3=>
 (v2.cell 0).bind fun c4=>
 (c4.asI .i64).bind fun n5=>
 (v3.cell 0).bind fun c6=>
 (c6.asI .i64).bind fun n7=>
 (if(!decide (n5=n7))=true then
 some (.val (.c (.bool false)))
 else
 y27_1 M a b (IntKind.wrap .i64 (i+1)))
 else
 some (.val (.c (.bool true)))):=yq (by kernel_rfl)
theorem W1f(M:YM)(g_0:Int)(g_1 g_2 labels:U):y32 M g_0 g_1 g_2 labels=
 y32_1 M labels g_0 g_1 g_2 0 (⟨false,0,[]⟩:Sx):=yq (by kernel_rfl)
theorem X0Q(M:YM)(labels:U)(g_0:Int)(g_1 g_2:U)(a:Int)(out:Sx):y32_1 M labels g_0 g_1 g_2 a out=
 (if(decide (a<12))=true then
 y32_2 M labels g_0 g_1 g_2 a false 0 out
 else
 (if scals out.es=true then
 some (.sl out)
 else
 none)):=yq (by kernel_rfl)
theorem X0R(M:YM)(labels:U)(g_0:Int)(g_1 g_2:U)(a:Int)(is:Bool)(i:Int)(out:Sx):y32_2 M labels g_0 g_1 g_2 a is i out=
 g_2.len.bind fun k1=>
 (if(decide (i<((k1:Nat):Int)))=true then
 (if is=false then
 (g_2.idx 3 i).bind fun v2=>
 (v2.cell 2).bind fun c3=>
 (c3.asI .i64).bind fun n4=>
 (if(decide (n4=a))=true then
 (g_2.idx 3 i).bind fun v5=>
 (g_2.idx 3 i).bind fun v6=>
 (v5.cell 0).bind fun c7=>
 (c7.asI .i64).bind fun n8=>
 (labels.idx 1 n8).bind fun v9=>
 (v9.cell 0).bind fun c10=>
 (c10.asI .i64).bind fun n11=>
 (v6.cell 1).bind fun c12=>
 (c12.asI .i64).bind fun n13=>
 (labels.idx 1 n13).bind fun v14=>
 (v14.cell 0).bind fun c15=>
 (c15.asI .i64).bind fun n16=>
 some (!decide (n11=n16))
 else
 some (decide (n4=a))).bind fun q17=>
 some q17
 else
 some is).bind fun q18=>
 y32_2 M labels g_0 g_1 g_2 a q18 (IntKind.wrap .i64 (i+1)) out
 else
 (if is=true then
 (Sx.app out 1 ([.c (.int .i64 a)])).bind fun s19=>
 y32_3 M labels g_0 g_1 g_2 a s19
 else
 y32_3 M labels g_0 g_1 g_2 a out)):=yq (by kernel_rfl)
theorem Q1B(M:YM)(labels:U)(g_0:Int)(g_1 g_2:U)(a:Int)(out:Sx):y32_3 M labels g_0 g_1 g_2 a out=
 y32_1 M labels g_0 g_1 g_2 (IntKind.wrap .i64 (a+1)) out:=yq (by kernel_rfl)
theorem W1g(M:YM)(g_0:Int)(g_1 g_2:U):y36 M g_0 g_1 g_2=
 y36_1 M g_0 g_1 g_2 0 (⟨false,0,[]⟩:Sx):=yq (by kernel_rfl)
theorem X0S(M:YM)(g_0:Int)(g_1 g_2:U)(a:Int)(out:Sx):y36_1 M g_0 g_1 g_2 a out=
 (if(decide (a<12))=true then
 y36_2 M g_0 g_1 g_2 a 0 out (⟨false,0,[]⟩:Sx)
 else
 some (.sl out)):=yq (by kernel_rfl)
theorem X0T(M:YM)(g_0:Int)(g_1 g_2:U)(a b:Int)(out l:Sx):y36_2 M g_0 g_1 g_2 a b out l=
 (if(decide (b<12))=true then
 (if(decide (a=b))=true then
 y36_2 M g_0 g_1 g_2 a (IntKind.wrap .i64 (b+1)) out l
 else
 (y38 M g_0 g_1 g_2 a b).bind fun r1=>
 r1.asTup.bind fun t2=>
 (t2[0]?).bind fun u3=>
 (u3.exact ks0).bind fun f4=>
 (t2[1]?).bind fun u5=>
 u5.asB.bind fun b6=>
 (if(!b6)=true then
 (Sx.app l 1 ([.c (.int .i64 b)])).bind fun s7=>
 y36_3 M g_0 g_1 g_2 a b out s7
 else
 y36_3 M g_0 g_1 g_2 a b out l))
 else
 (Sx.app out 1 ([Sx.fz l])).bind fun s8=>
 y36_1 M g_0 g_1 g_2 (IntKind.wrap .i64 (a+1)) s8):=yq (by kernel_rfl)
theorem Q1C(M:YM)(g_0:Int)(g_1 g_2:U)(a b:Int)(out l:Sx):y36_3 M g_0 g_1 g_2 a b out l=
 y36_2 M g_0 g_1 g_2 a (IntKind.wrap .i64 (b+1)) out l:=yq (by kernel_rfl)
theorem W1h(M:YM)(n low high:Int):y37 M n low high=
 (if(decide (low<=n))=true then
 some (decide (n<=high))
 else
 some (decide (low<=n))).bind fun q1=>
 some (.val (.c (.bool q1))):=yq (by kernel_rfl)
theorem W1i(M:YM)(g_0:Int)(g_1 g_2:U)(a b:Int):y38 M g_0 g_1 g_2 a b=
 y38_1 M a b g_0 g_1 g_2 0 0 0 0 0:=yq (by kernel_rfl)
theorem X0U(M:YM)(a b g_0:Int)(g_1 g_2:U)(x6_0 x6_1 x6_2 x6_3 s:Int):y38_1 M a b g_0 g_1 g_2 x6_0 x6_1 x6_2 x6_3 s=
 (if(decide (s<g_0))=true then
 (y71 M g_0 g_1 g_2 s a).bind fun r1=>
 r1.asSl.bind fun s2=>
 (y71 M g_0 g_1 g_2 s b).bind fun r3=>
 r3.asSl.bind fun s4=>
 (if(decide ((((s2.es).length:Nat):Int)=0))=false then
 some (decide ((((s4.es).length:Nat):Int)=0))
 else
 some (decide ((((s2.es).length:Nat):Int)=0))).bind fun q5=>
 (if q5=true then
 y38_1 M a b g_0 g_1 g_2 x6_0 x6_1 x6_2 x6_3 (IntKind.wrap .i64 (s+1))
 else
 y38_2 M a b g_0 g_1 g_2 x6_0 x6_1 x6_2 x6_3 s 0 s2 s4)
 else
 some (.tup [.st [.c (.int .i64 0), .c (.int .i64 0), .c (.int .i64 0), .c (.int .i64 0)], .c (.bool false)])):=yq (by kernel_rfl)
theorem X0V(M:YM)(a b g_0:Int)(g_1 g_2:U)(x6_0 x6_1 x6_2 x6_3 s i:Int)(x y:Sx):y38_2 M a b g_0 g_1 g_2 x6_0 x6_1 x6_2 x6_3 s i x y=
 (if(decide (i<(((x.es).length:Nat):Int)))=true then
 y38_3 M a b g_0 g_1 g_2 x6_0 x6_1 x6_2 x6_3 s i 0 x y
 else
 y38_4 M a b g_0 g_1 g_2 x6_0 x6_1 x6_2 x6_3 s 0 x y):=yq (by kernel_rfl)
theorem X0W(M:YM)(a b g_0:Int)(g_1 g_2:U)(x6_0 x6_1 x6_2 x6_3 s i k:Int)(x y:Sx):y38_3 M a b g_0 g_1 g_2 x6_0 x6_1 x6_2 x6_3 s i k x y=
 (if(decide (k<(((y.es).length:Nat):Int)))=true then
 (if Sx.has x 1 i=true then
 (if Sx.has y 1 k=true then
 ((x.es)[i.toNat]?).bind fun v1=>
 (v1.cell 0).bind fun c2=>
 (c2.asI .i64).bind fun n3=>
 ((y.es)[k.toNat]?).bind fun v4=>
 (v4.cell 0).bind fun c5=>
 (c5.asI .i64).bind fun n6=>
 (y72 M g_0 g_1 g_2 n3 n6).bind fun r7=>
 r7.toU.bind fun u8=>
 u8.asB.bind fun b9=>
 (if(!b9)=true then
 (if Sx.has x 1 i=true then
 (if Sx.has y 1 k=true then
 ((x.es)[i.toNat]?).bind fun v10=>
 (v10.cell 0).bind fun c11=>
 (c11.asI .i64).bind fun n12=>
 ((y.es)[k.toNat]?).bind fun v13=>
 (v13.cell 0).bind fun c14=>
 (c14.asI .i64).bind fun n15=>
 some (.tup [.st [.c (.int .i64 s), .c (.int .i64 1), .c (.int .i64 n12), .c (.int .i64 n15)], .c (.bool true)])
 else
 none)
 else
 none)
 else
 y38_3 M a b g_0 g_1 g_2 x6_0 x6_1 x6_2 x6_3 s i (IntKind.wrap .i64 (k+1)) x y)
 else
 none)
 else
 none)
 else
 y38_2 M a b g_0 g_1 g_2 x6_0 x6_1 x6_2 x6_3 s (IntKind.wrap .i64 (i+1)) x y):=yq (by kernel_rfl)
theorem X0X(M:YM)(a b g_0:Int)(g_1 g_2:U)(x6_0 x6_1 x6_2 x6_3 s i:Int)(x y:Sx):y38_4 M a b g_0 g_1 g_2 x6_0 x6_1 x6_2 x6_3 s i x y=
 (if(decide (i<(((x.es).length:Nat):Int)))=true then
 (if Sx.has x 1 i=true then
 ((x.es)[i.toNat]?).bind fun v1=>
 (v1.cell 0).bind fun c2=>
 (c2.asI .i64).bind fun n3=>
 (g_2.idx 3 n3).bind fun v4=>
 (v4.cell 1).bind fun c5=>
 (c5.asI .i64).bind fun n6=>
 (y71 M g_0 g_1 g_2 n6 b).bind fun r7=>
 r7.asSl.bind fun s8=>
 y38_5 M a b g_0 g_1 g_2 x6_0 x6_1 x6_2 x6_3 s i 0 x y s8
 else
 none)
 else
 y38_6 M a b g_0 g_1 g_2 x6_0 x6_1 x6_2 x6_3 s 0 0 0 0 false 0 y):=yq (by kernel_rfl)
theorem X0Y(M:YM)(a b g_0:Int)(g_1 g_2:U)(x6_0 x6_1 x6_2 x6_3 s i k:Int)(x y z:Sx):y38_5 M a b g_0 g_1 g_2 x6_0 x6_1 x6_2 x6_3 s i k x y z=
 (if(decide (k<(((z.es).length:Nat):Int)))=true then
 (if Sx.has x 1 i=true then
 (if Sx.has z 1 k=true then
 ((x.es)[i.toNat]?).bind fun v1=>
 (v1.cell 0).bind fun c2=>
 (c2.asI .i64).bind fun n3=>
 ((z.es)[k.toNat]?).bind fun v4=>
 (v4.cell 0).bind fun c5=>
 (c5.asI .i64).bind fun n6=>
 (y73 M g_0 g_1 g_2 n3 n6).bind fun r7=>
 r7.toU.bind fun u8=>
 u8.asB.bind fun b9=>
 (if(!b9)=true then
 (if Sx.has x 1 i=true then
 (if Sx.has z 1 k=true then
 ((x.es)[i.toNat]?).bind fun v10=>
 (v10.cell 0).bind fun c11=>
 (c11.asI .i64).bind fun n12=>
 ((z.es)[k.toNat]?).bind fun v13=>
 (v13.cell 0).bind fun c14=>
 (c14.asI .i64).bind fun n15=>
 some (.tup [.st [.c (.int .i64 s), .c (.int .i64 2), .c (.int .i64 n12), .c (.int .i64 n15)], .c (.bool true)])
 else
 none)
 else
 none)
 else
 y38_5 M a b g_0 g_1 g_2 x6_0 x6_1 x6_2 x6_3 s i (IntKind.wrap .i64 (k+1)) x y z)
 else
 none)
 else
 none)
 else
 y38_4 M a b g_0 g_1 g_2 x6_0 x6_1 x6_2 x6_3 s (IntKind.wrap .i64 (i+1)) x y):=yq (by kernel_rfl)
theorem X0Z(M:YM)(a b g_0:Int)(g_1 g_2:U)(x6_0 x6_1 x6_2 x6_3 s best_0 best_1 best_2 best_3:Int)(found:Bool)(k:Int)(y:Sx):y38_6 M a b g_0 g_1 g_2 x6_0 x6_1 x6_2 x6_3 s best_0 best_1 best_2 best_3 found k y=
 (if(decide (k<(((y.es).length:Nat):Int)))=true then
 (if Sx.has y 1 k=true then
 ((y.es)[k.toNat]?).bind fun v1=>
 (v1.cell 0).bind fun c2=>
 (c2.asI .i64).bind fun n3=>
 (g_2.idx 3 n3).bind fun v4=>
 (v4.cell 1).bind fun c5=>
 (c5.asI .i64).bind fun n6=>
 (y71 M g_0 g_1 g_2 n6 a).bind fun r7=>
 r7.asSl.bind fun s8=>
 y38_7 M a b g_0 g_1 g_2 x6_0 x6_1 x6_2 x6_3 s best_0 best_1 best_2 best_3 found k 0 y s8
 else
 none)
 else
 (if found=true then
 some (.tup [.st [.c (.int .i64 best_0), .c (.int .i64 best_1), .c (.int .i64 best_2), .c (.int .i64 best_3)], .c (.bool true)])
 else
 y38_1 M a b g_0 g_1 g_2 x6_0 x6_1 x6_2 x6_3 (IntKind.wrap .i64 (s+1)))):=yq (by kernel_rfl)
theorem Y0a(M:YM)(a b g_0:Int)(g_1 g_2:U)(x6_0 x6_1 x6_2 x6_3 s best_0 best_1 best_2 best_3:Int)(found:Bool)(k i:Int)(y z:Sx):y38_7 M a b g_0 g_1 g_2 x6_0 x6_1 x6_2 x6_3 s best_0 best_1 best_2 best_3 found k i y z=
 (if(decide (i<(((z.es).length:Nat):Int)))=true then
 (if Sx.has y 1 k=true then
 (if Sx.has z 1 i=true then
 ((y.es)[k.toNat]?).bind fun v1=>
 (v1.cell 0).bind fun c2=>
 (c2.asI .i64).bind fun n3=>
 ((z.es)[i.toNat]?).bind fun v4=>
 (v4.cell 0).bind fun c5=>
 (c5.asI .i64).bind fun n6=>
 (y73 M g_0 g_1 g_2 n3 n6).bind fun r7=>
 r7.toU.bind fun u8=>
 u8.asB.bind fun b9=>
 (if(!b9)=true then
 (if(!found)=false then
 (if Sx.has z 1 i=true then
 ((z.es)[i.toNat]?).bind fun v10=>
 (v10.cell 0).bind fun c11=>
 (c11.asI .i64).bind fun n12=>
 some (decide (n12<best_2))
 else
 none)
 else
 some (!found)).bind fun q13=>
 (if q13=false then
 (if Sx.has z 1 i=true then
 ((z.es)[i.toNat]?).bind fun v14=>
 (v14.cell 0).bind fun c15=>
 (c15.asI .i64).bind fun n16=>
 (if(decide (n16=best_2))=true then
 (if Sx.has y 1 k=true then
 ((y.es)[k.toNat]?).bind fun v17=>
 (v17.cell 0).bind fun c18=>
 (c18.asI .i64).bind fun n19=>
 some (decide (n19<best_3))
 else
 none)
 else
 some (decide (n16=best_2))).bind fun q20=>
 some q20
 else
 none)
 else
 some q13).bind fun q21=>
 some q21
 else
 some (!b9)).bind fun q22=>
 (if q22=true then
 (if Sx.has z 1 i=true then
 (if Sx.has y 1 k=true then
 ((z.es)[i.toNat]?).bind fun v23=>
 (v23.cell 0).bind fun c24=>
 (c24.asI .i64).bind fun n25=>
 ((y.es)[k.toNat]?).bind fun v26=>
 (v26.cell 0).bind fun c27=>
 (c27.asI .i64).bind fun n28=>
 y38_8 M a b g_0 g_1 g_2 x6_0 x6_1 x6_2 x6_3 s s 3 n25 n28 true k i y z
 else
 none)
 else
 none)
 else
 y38_8 M a b g_0 g_1 g_2 x6_0 x6_1 x6_2 x6_3 s best_0 best_1 best_2 best_3 found k i y z)
 else
 none)
 else
 none)
 else
 y38_6 M a b g_0 g_1 g_2 x6_0 x6_1 x6_2 x6_3 s best_0 best_1 best_2 best_3 found (IntKind.wrap .i64 (k+1)) y):=yq (by kernel_rfl)
theorem Q1D(M:YM)(a b g_0:Int)(g_1 g_2:U)(x6_0 x6_1 x6_2 x6_3 s best_0 best_1 best_2 best_3:Int)(found:Bool)(k i:Int)(y z:Sx):y38_8 M a b g_0 g_1 g_2 x6_0 x6_1 x6_2 x6_3 s best_0 best_1 best_2 best_3 found k i y z=
 y38_7 M a b g_0 g_1 g_2 x6_0 x6_1 x6_2 x6_3 s best_0 best_1 best_2 best_3 found k (IntKind.wrap .i64 (i+1)) y z:=yq (by kernel_rfl)
theorem W1j(M:YM)(l:U)(n:Int):y39 M l n=
 y39_1 M l n 0:=yq (by kernel_rfl)
theorem Y0b(M:YM)(l:U)(n i:Int):y39_1 M l n i=
 l.len.bind fun k1=>
 (if(decide (i<((k1:Nat):Int)))=true then
 (l.idx 1 i).bind fun v2=>
 (v2.cell 0).bind fun c3=>
 (c3.asI .i64).bind fun n4=>
 (if(decide (n4=n))=true then
 some (.val (.c (.bool true)))
 else
 y39_1 M l n (IntKind.wrap .i64 (i+1)))
 else
 some (.val (.c (.bool false)))):=yq (by kernel_rfl)
theorem W1k(M:YM)(g_0:Int)(g_1 g_2:U):y41 M g_0 g_1 g_2=
 (if 0<=g_0/\g_0<=2 ^ 36/\1=1 then
 y41_1 M g_0 g_1 g_2 0 (⟨true,1,List.replicate g_0.toNat (.c (.bool false))⟩:Sx)
 else
 none):=yq (by kernel_rfl)
theorem Y0c(M:YM)(g_0:Int)(g_1 g_2:U)(s:Int)(left:Sx):y41_1 M g_0 g_1 g_2 s left=
 (if(decide (s<g_0))=true then
 (if Sx.has left 1 s=true then
 (Sx.put left 1 s.toNat 0 (.c (.bool true))).bind fun s1=>
 y41_1 M g_0 g_1 g_2 (IntKind.wrap .i64 (s+1)) s1
 else
 none)
 else
 y41_2 M g_0 g_1 g_2 0 left):=yq (by kernel_rfl)
theorem Y0d(M:YM)(g_0:Int)(g_1 g_2:U)(k:Int)(left:Sx):y41_2 M g_0 g_1 g_2 k left=
 (if(decide (k<g_0))=true then
 y41_3 M g_0 g_1 g_2 k 0 left
 else
 y41_5 M g_0 g_1 g_2 0 left):=yq (by kernel_rfl)
theorem Y0e(M:YM)(g_0:Int)(g_1 g_2:U)(k s:Int)(left:Sx):y41_3 M g_0 g_1 g_2 k s left=
 (if(decide (s<g_0))=true then
 y41_4 M g_0 g_1 g_2 k s false 0 left
 else
 y41_2 M g_0 g_1 g_2 (IntKind.wrap .i64 (k+1)) left):=yq (by kernel_rfl)
theorem Y0f(M:YM)(g_0:Int)(g_1 g_2:U)(s:Int)(left:Sx):y41_5 M g_0 g_1 g_2 s left=
 (if(decide (s<g_0))=true then
 (if Sx.has left 1 s=true then
 ((left.es)[s.toNat]?).bind fun v1=>
 (v1.cell 0).bind fun c2=>
 c2.asB.bind fun b3=>
 (if b3=true then
 some (.val (.c (.bool true)))
 else
 y41_5 M g_0 g_1 g_2 (IntKind.wrap .i64 (s+1)) left)
 else
 none)
 else
 some (.val (.c (.bool false)))):=yq (by kernel_rfl)
theorem Y0g(M:YM)(g_0:Int)(g_1 g_2:U)(k s:Int)(out:Bool)(i:Int)(left:Sx):y41_4 M g_0 g_1 g_2 k s out i left=
 g_2.len.bind fun k1=>
 (if(decide (i<((k1:Nat):Int)))=true then
 (if out=false then
 (g_2.idx 3 i).bind fun v2=>
 (v2.cell 0).bind fun c3=>
 (c3.asI .i64).bind fun n4=>
 (if(decide (n4=s))=true then
 (g_2.idx 3 i).bind fun v5=>
 (v5.cell 1).bind fun c6=>
 (c6.asI .i64).bind fun n7=>
 (if Sx.has left 1 n7=true then
 ((left.es)[n7.toNat]?).bind fun v8=>
 (v8.cell 0).bind fun c9=>
 c9.asB.bind fun b10=>
 some b10
 else
 none)
 else
 some (decide (n4=s))).bind fun q11=>
 some q11
 else
 some out).bind fun q12=>
 y41_4 M g_0 g_1 g_2 k s q12 (IntKind.wrap .i64 (i+1)) left
 else
 (if Sx.has left 1 s=true then
 ((left.es)[s.toNat]?).bind fun v13=>
 (v13.cell 0).bind fun c14=>
 c14.asB.bind fun b15=>
 (if b15=true then
 some out
 else
 some b15).bind fun q16=>
 (if Sx.has left 1 s=true then
 (Sx.put left 1 s.toNat 0 (.c (.bool q16))).bind fun s17=>
 y41_3 M g_0 g_1 g_2 k (IntKind.wrap .i64 (s+1)) s17
 else
 none)
 else
 none)):=yq (by kernel_rfl)
theorem W1l(M:YM)(g_0:Int)(g_1 g_2:U)(s:Int):y42 M g_0 g_1 g_2 s=
 y42_1 M s g_0 g_1 g_2 0 (⟨false,0,[]⟩:Sx):=yq (by kernel_rfl)
theorem Y0h(M:YM)(s g_0:Int)(g_1 g_2:U)(a:Int)(out:Sx):y42_1 M s g_0 g_1 g_2 a out=
 (if(decide (a<12))=true then
 (y71 M g_0 g_1 g_2 s a).bind fun r1=>
 r1.asSl.bind fun s2=>
 (if(decide (0<(((s2.es).length:Nat):Int)))=true then
 (Sx.app out 1 ([.c (.int .i64 a)])).bind fun s3=>
 y42_2 M s g_0 g_1 g_2 a s3
 else
 y42_2 M s g_0 g_1 g_2 a out)
 else
 (if scals out.es=true then
 some (.sl out)
 else
 none)):=yq (by kernel_rfl)
theorem Y0i(M:YM)(s g_0:Int)(g_1 g_2:U)(a:Int)(out:Sx):y42_2 M s g_0 g_1 g_2 a out=
 y42_1 M s g_0 g_1 g_2 (IntKind.wrap .i64 (a+1)) out:=yq (by kernel_rfl)
theorem W1m(M:YM)(g_0:Int)(g_1 g_2 free:U)(a:Int):y43 M g_0 g_1 g_2 free a=
 y43_1 M free a g_0 g_1 g_2 0:=yq (by kernel_rfl)
theorem Y0j(M:YM)(free:U)(a g_0:Int)(g_1 g_2:U)(i:Int):y43_1 M free a g_0 g_1 g_2 i=
 g_2.len.bind fun k1=>
 (if(decide (i<((k1:Nat):Int)))=true then
 (g_2.idx 3 i).bind fun v2=>
 (v2.cell 2).bind fun c3=>
 (c3.asI .i64).bind fun n4=>
 (if(!decide (n4=a))=true then
 (g_2.idx 3 i).bind fun v5=>
 (v5.cell 2).bind fun c6=>
 (c6.asI .i64).bind fun n7=>
 (y39 M free n7).bind fun r8=>
 r8.toU.bind fun u9=>
 u9.asB.bind fun b10=>
 some (!b10)
 else
 some (!decide (n4=a))).bind fun q11=>
 (if q11=true then
 some (.val (.c (.bool false)))
 else
 y43_1 M free a g_0 g_1 g_2 (IntKind.wrap .i64 (i+1)))
 else
 some (.val (.c (.bool true)))):=yq (by kernel_rfl)
theorem W1n(M:YM)(g_0:Int)(g_1 g_2:U):y48 M g_0 g_1 g_2=
 (y69 M g_0 0 400).bind fun r1=>
 r1.toU.bind fun u2=>
 u2.asB.bind fun b3=>
 (if(!b3)=false then
 g_2.len.bind fun k4=>
 some (decide (2000<((k4:Nat):Int)))
 else
 some (!b3)).bind fun q5=>
 (if q5=true then
 some (.val (.c (.int .i64 5)))
 else
 g_1.len.bind fun k6=>
 y48_1 M g_0 g_1 g_2 g_1 ((k6:Nat):Int) 0):=yq (by kernel_rfl)
theorem Y0k(M:YM)(g_0:Int)(g_1 g_2 x18:U)(x19 x20:Int):y48_1 M g_0 g_1 g_2 x18 x19 x20=
 (if(decide (x20<x19))=true then
 (x18.idx 1 x20).bind fun v1=>
 (v1.cell 0).bind fun c2=>
 (c2.asI .i64).bind fun n3=>
 (y69 M n3 0 (IntKind.wrap .i64 (g_0 - 1))).bind fun r4=>
 r4.toU.bind fun u5=>
 u5.asB.bind fun b6=>
 (if(!b6)=false then
 (if(decide (0<x20))=true then
 (g_1.idx 1 (IntKind.wrap .i64 (x20 - 1))).bind fun v7=>
 (v7.cell 0).bind fun c8=>
 (c8.asI .i64).bind fun n9=>
 some (decide (n3<=n9))
 else
 some (decide (0<x20))).bind fun q10=>
 some q10
 else
 some (!b6)).bind fun q11=>
 (if q11=true then
 some (.val (.c (.int .i64 5)))
 else
 y48_1 M g_0 g_1 g_2 x18 x19 (IntKind.wrap .i64 (x20+1)))
 else
 g_2.len.bind fun k12=>
 y48_2 M g_0 g_1 g_2 g_2 ((k12:Nat):Int) 0):=yq (by kernel_rfl)
theorem Y0l(M:YM)(g_0:Int)(g_1 g_2 x47:U)(x48 x49:Int):y48_2 M g_0 g_1 g_2 x47 x48 x49=
 (if(decide (x49<x48))=true then
 (x47.idx 3 x49).bind fun v1=>
 (U.struct v1 0 ks2).bind fun f2=>
 (y69 M ((f2 0).i) 0 (IntKind.wrap .i64 (g_0 - 1))).bind fun r3=>
 r3.toU.bind fun u4=>
 u4.asB.bind fun b5=>
 (if(!b5)=false then
 (y69 M ((f2 1).i) 0 (IntKind.wrap .i64 (g_0 - 1))).bind fun r6=>
 r6.toU.bind fun u7=>
 u7.asB.bind fun b8=>
 some (!b8)
 else
 some (!b5)).bind fun q9=>
 (if q9=false then
 (y69 M ((f2 2).i) 0 11).bind fun r10=>
 r10.toU.bind fun u11=>
 u11.asB.bind fun b12=>
 some (!b12)
 else
 some q9).bind fun q13=>
 (if q13=false then
 (if(decide (0<x49))=true then
 (g_2.idx 3 (IntKind.wrap .i64 (x49 - 1))).bind fun v14=>
 (U.struct v14 0 ks2).bind fun f15=>
 (y78 M ((f15 0).i) ((f15 1).i) ((f15 2).i) ((f2 0).i) ((f2 1).i) ((f2 2).i)).bind fun r16=>
 r16.toU.bind fun u17=>
 (u17.asI .i64).bind fun n18=>
 some (decide (0<=n18))
 else
 some (decide (0<x49))).bind fun q19=>
 some q19
 else
 some q13).bind fun q20=>
 (if q20=true then
 some (.val (.c (.int .i64 5)))
 else
 y48_2 M g_0 g_1 g_2 x47 x48 (IntKind.wrap .i64 (x49+1)))
 else
 (y68 M (decide (g_0<=60)) 2).bind fun r21=>
 r21.toU.bind fun u22=>
 (u22.asI .i64).bind fun n23=>
 some (.val (.c (.int .i64 n23)))):=yq (by kernel_rfl)
theorem W1o(M:YM)(l:U):y49 M l=
 l.len.bind fun k1=>
 y49_1 M l ((k1:Nat):Int) 0:=yq (by kernel_rfl)
theorem Y0m(M:YM)(x5:U)(x6 x7:Int):y49_1 M x5 x6 x7=
 (if(decide (x7<x6))=true then
 (x5.idx 1 x7).bind fun v1=>
 (v1.cell 0).bind fun c2=>
 (c2.asI .i64).bind fun n3=>
 (if(!decide (n3=0))=true then
 some (.val (.c (.int .i64 n3)))
 else
 y49_1 M x5 x6 (IntKind.wrap .i64 (x7+1)))
 else
 some (.val (.c (.int .i64 0)))):=yq (by kernel_rfl)
theorem W1p(M:YM)(g_0:Int)(g_1 g_2 labels:U):y50 M g_0 g_1 g_2 labels=
 (y79 M labels (.fn 80 [] [])).bind fun r1=>
 r1.toU.bind fun u2=>
 u2.asB.bind fun b3=>
 labels.len.bind fun k4=>
 (y68 M (decide (((k4:Nat):Int)=g_0)) 6).bind fun r5=>
 r5.toU.bind fun u6=>
 (u6.asI .i64).bind fun n7=>
 (y68 M (!b3) 3).bind fun r8=>
 r8.toU.bind fun u9=>
 (u9.asI .i64).bind fun n10=>
 (y49 M (Sx.fz (⟨true,1,[.c (.int .i64 n7), .c (.int .i64 n10)]⟩:Sx))).bind fun r11=>
 r11.toU.bind fun u12=>
 (u12.asI .i64).bind fun n13=>
 some (.val (.c (.int .i64 n13))):=yq (by kernel_rfl)
theorem W1q(M:YM)(c:U)(s:Int):y53 M c s=
 c.one.bind fun u1=>
 u1.asR.bind fun a2=>
 (U.cell a2.1 (a2.2+157)).bind fun c3=>
 (c3.idx 1 s).bind fun v4=>
 (v4.cell 0).bind fun c5=>
 c5.len.bind fun k6=>
 (if(decide (((k6:Nat):Int)=0))=true then
 u1.asR.bind fun a7=>
 (U.cell a7.1 a7.2).bind fun c8=>
 c8.asR.bind fun a9=>
 (U.cell a9.1 (a9.2+3)).bind fun c10=>
 (c10.idx 1 s).bind fun v11=>
 (v11.cell 0).bind fun c12=>
 c12.len.bind fun k13=>
 some (decide (0<((k13:Nat):Int)))
 else
 some (decide (((k6:Nat):Int)=0))).bind fun q14=>
 (if q14=true then
 some (.tup [.st [.c (.int .i64 s), .c (.int .i64 1),Sx.fz (⟨false,0,[]⟩:Sx)], .c (.bool true)])
 else
 (y81 M u1 s).bind fun r15=>
 r15.toU.bind fun u16=>
 u16.one.bind fun u17=>
 (U.isNil .slice u17).bind fun b18=>
 (if(b18 !=true)=true then
 u17.one.bind fun u19=>
 some (.tup [.st [.c (.int .i64 s), .c (.int .i64 2),u19], .c (.bool true)])
 else
 u1.asR.bind fun a20=>
 (U.cell a20.1 (a20.2+157)).bind fun c21=>
 (c21.idx 1 s).bind fun v22=>
 (v22.cell 0).bind fun c23=>
 (y82 M c23 (.fn 83 [] [.ref (.st [u1]) 0])).bind fun r24=>
 r24.toU.bind fun u25=>
 (u25.asI .i64).bind fun n26=>
 (if(decide (0<=n26))=true then
 (y84 M u1 s).bind fun r27=>
 r27.toU.bind fun u28=>
 u28.asB.bind fun b29=>
 some (!b29)
 else
 some (decide (0<=n26))).bind fun q30=>
 (if q30=true then
 u1.asR.bind fun a31=>
 (U.cell a31.1 (a31.2+157)).bind fun c32=>
 (c32.idx 1 s).bind fun v33=>
 (v33.cell 0).bind fun c34=>
 (c34.idx 1 n26).bind fun v35=>
 (v35.cell 0).bind fun c36=>
 (c36.asI .i64).bind fun n37=>
 some (.tup [.st [.c (.int .i64 s), .c (.int .i64 3),Sx.fz (⟨true,1,[.c (.int .i64 n37)]⟩:Sx)], .c (.bool true)])
 else
 some (.tup [.st [.c (.int .i64 0), .c (.int .i64 0),Sx.fz (⟨false,0,[]⟩:Sx)], .c (.bool false)])))):=yq (by kernel_rfl)
theorem W1r(M:YM)(g_0:Int)(g_1 g_2:U):y55 M g_0 g_1 g_2=
 (y37 M g_0 0 400).bind fun r1=>
 r1.toU.bind fun u2=>
 u2.asB.bind fun b3=>
 (if(!b3)=false then
 g_1.len.bind fun k4=>
 some (decide (g_0<((k4:Nat):Int)))
 else
 some (!b3)).bind fun q5=>
 (if q5=false then
 g_2.len.bind fun k6=>
 some (decide (2000<((k6:Nat):Int)))
 else
 some q5).bind fun q7=>
 (if q7=true then
 some (.val (.c (.bool false)))
 else
 y55_1 M g_0 g_1 g_2 0):=yq (by kernel_rfl)
theorem Y0n(M:YM)(g_0:Int)(g_1 g_2:U)(i:Int):y55_1 M g_0 g_1 g_2 i=
 g_1.len.bind fun k1=>
 (if(decide (i<((k1:Nat):Int)))=true then
 (g_1.idx 1 i).bind fun v2=>
 (v2.cell 0).bind fun c3=>
 (c3.asI .i64).bind fun n4=>
 (y37 M n4 0 (IntKind.wrap .i64 (g_0 - 1))).bind fun r5=>
 r5.toU.bind fun u6=>
 u6.asB.bind fun b7=>
 (if(!b7)=false then
 (if(decide (0<i))=true then
 (g_1.idx 1 i).bind fun v8=>
 (g_1.idx 1 (IntKind.wrap .i64 (i - 1))).bind fun v9=>
 (v8.cell 0).bind fun c10=>
 (c10.asI .i64).bind fun n11=>
 (v9.cell 0).bind fun c12=>
 (c12.asI .i64).bind fun n13=>
 some (decide (n11<=n13))
 else
 some (decide (0<i))).bind fun q14=>
 some q14
 else
 some (!b7)).bind fun q15=>
 (if q15=true then
 some (.val (.c (.bool false)))
 else
 y55_1 M g_0 g_1 g_2 (IntKind.wrap .i64 (i+1)))
 else
 y55_2 M g_0 g_1 g_2 0):=yq (by kernel_rfl)
theorem Y0o(M:YM)(g_0:Int)(g_1 g_2:U)(i:Int):y55_2 M g_0 g_1 g_2 i=
 g_2.len.bind fun k1=>
 (if(decide (i<((k1:Nat):Int)))=true then
 (g_2.idx 3 i).bind fun v2=>
 (U.struct v2 0 ks2).bind fun f3=>
 (y37 M ((f3 0).i) 0 (IntKind.wrap .i64 (g_0 - 1))).bind fun r4=>
 r4.toU.bind fun u5=>
 u5.asB.bind fun b6=>
 (if(!b6)=false then
 (y37 M ((f3 1).i) 0 (IntKind.wrap .i64 (g_0 - 1))).bind fun r7=>
 r7.toU.bind fun u8=>
 u8.asB.bind fun b9=>
 some (!b9)
 else
 some (!b6)).bind fun q10=>
 (if q10=false then
 (y37 M ((f3 2).i) 0 11).bind fun r11=>
 r11.toU.bind fun u12=>
 u12.asB.bind fun b13=>
 some (!b13)
 else
 some q10).bind fun q14=>
 (if q14=false then
 (if(decide (0<i))=true then
 (g_2.idx 3 (IntKind.wrap .i64 (i - 1))).bind fun v15=>
 (U.struct v15 0 ks2).bind fun f16=>
 (y89 M ((f16 0).i) ((f16 1).i) ((f16 2).i)).bind fun r17=>
 r17.asSl.bind fun s18=>
 (y89 M ((f3 0).i) ((f3 1).i) ((f3 2).i)).bind fun r19=>
 r19.asSl.bind fun s20=>
 (y88 M (Sx.fz s18) (Sx.fz s20)).bind fun r21=>
 r21.toU.bind fun u22=>
 (u22.asI .i64).bind fun n23=>
 some (decide (0<=n23))
 else
 some (decide (0<i))).bind fun q24=>
 some q24
 else
 some q14).bind fun q25=>
 (if q25=true then
 some (.val (.c (.bool false)))
 else
 y55_2 M g_0 g_1 g_2 (IntKind.wrap .i64 (i+1)))
 else
 some (.val (.c (.bool true)))):=yq (by kernel_rfl)
theorem W1s(M:YM)(g_0:Int)(g_1 g_2 c:U)(s:Int):y56 M g_0 g_1 g_2 c s=
 (c.idx 1 s).bind fun v1=>
 (v1.cell 0).bind fun c2=>
 (y42 M g_0 g_1 g_2 s).bind fun r3=>
 r3.asSl.bind fun s4=>
 (y27 M c2 (Sx.fz s4)).bind fun r5=>
 r5.toU.bind fun u6=>
 u6.asB.bind fun b7=>
 some (.val (.c (.bool b7))):=yq (by kernel_rfl)
theorem W1t(M:YM)(g_0:Int)(g_1 g_2 free:U)(s:Int)(chosen:U):y57 M g_0 g_1 g_2 free s chosen=
 y57_1 M free chosen g_0 g_1 g_2 (⟨true,1,[Sx.fz (⟨true,1,[.c (.int .i64 s)]⟩:Sx)]⟩:Sx) (⟨true,1,[.c (.int .i64 s)]⟩:Sx):=yq (by kernel_rfl)
theorem Q1E(M:YM)(free chosen:U)(g_0:Int)(g_1 g_2:U)(paths seen:Sx):y57_1 M free chosen g_0 g_1 g_2 paths seen=
 (if(decide (0<(((paths.es).length:Nat):Int)))=true then
 y57_2 M free chosen g_0 g_1 g_2 0 paths seen
 else
 some (.sl (⟨false,0,[]⟩:Sx))):=yq (by kernel_rfl)
theorem Y0p(M:YM)(free chosen:U)(g_0:Int)(g_1 g_2:U)(i:Int)(paths seen:Sx):y57_2 M free chosen g_0 g_1 g_2 i paths seen=
 (if(decide (i<(((paths.es).length:Nat):Int)))=true then
 (if Sx.has paths 1 i=true then
 (if Sx.has paths 1 i=true then
 ((paths.es)[i.toNat]?).bind fun v1=>
 (v1.cell 0).bind fun c2=>
 ((paths.es)[i.toNat]?).bind fun v3=>
 (v3.cell 0).bind fun c4=>
 c4.len.bind fun k5=>
 (c2.idx 1 (IntKind.wrap .i64 (((k5:Nat):Int) - 1))).bind fun v6=>
 (v6.cell 0).bind fun c7=>
 (c7.asI .i64).bind fun n8=>
 (y90 M g_0 g_1 g_2 n8).bind fun r9=>
 r9.asSl.bind fun s10=>
 y57_3 M free chosen g_0 g_1 g_2 i 0 paths seen s10
 else
 none)
 else
 none)
 else
 y57_4 M free chosen g_0 g_1 g_2 0 paths seen (⟨false,0,[]⟩:Sx)):=yq (by kernel_rfl)
theorem Y0q(M:YM)(free chosen:U)(g_0:Int)(g_1 g_2:U)(i k:Int)(paths seen l:Sx):y57_3 M free chosen g_0 g_1 g_2 i k paths seen l=
 (if(decide (k<(((l.es).length:Nat):Int)))=true then
 (if Sx.has l 1 k=true then
 ((l.es)[k.toNat]?).bind fun v1=>
 (v1.cell 0).bind fun c2=>
 (c2.asI .i64).bind fun n3=>
 (g_2.idx 3 n3).bind fun v4=>
 (v4.cell 2).bind fun c5=>
 (c5.asI .i64).bind fun n6=>
 (y39 M chosen n6).bind fun r7=>
 r7.toU.bind fun u8=>
 u8.asB.bind fun b9=>
 (if(!b9)=true then
 (y91 M free n6 chosen).bind fun r10=>
 r10.toU.bind fun u11=>
 u11.asB.bind fun b12=>
 some b12
 else
 some (!b9)).bind fun q13=>
 (if q13=true then
 (if Sx.has paths 1 i=true then
 ((paths.es)[i.toNat]?).bind fun v14=>
 (v14.cell 0).bind fun c15=>
 (y15 M c15).bind fun r16=>
 r16.asSl.bind fun s17=>
 (Sx.app s17 1 ([.c (.int .i64 n6)])).bind fun s18=>
 (if scals s18.es=true then
 some (.sl s18)
 else
 none)
 else
 none)
 else
 y57_3 M free chosen g_0 g_1 g_2 i (IntKind.wrap .i64 (k+1)) paths seen l)
 else
 none)
 else
 y57_2 M free chosen g_0 g_1 g_2 (IntKind.wrap .i64 (i+1)) paths seen):=yq (by kernel_rfl)
theorem Y0r(M:YM)(free chosen:U)(g_0:Int)(g_1 g_2:U)(i:Int)(paths seen next:Sx):y57_4 M free chosen g_0 g_1 g_2 i paths seen next=
 (if(decide (i<(((paths.es).length:Nat):Int)))=true then
 (if Sx.has paths 1 i=true then
 (if Sx.has paths 1 i=true then
 ((paths.es)[i.toNat]?).bind fun v1=>
 (v1.cell 0).bind fun c2=>
 ((paths.es)[i.toNat]?).bind fun v3=>
 (v3.cell 0).bind fun c4=>
 c4.len.bind fun k5=>
 (c2.idx 1 (IntKind.wrap .i64 (((k5:Nat):Int) - 1))).bind fun v6=>
 (v6.cell 0).bind fun c7=>
 (c7.asI .i64).bind fun n8=>
 (y90 M g_0 g_1 g_2 n8).bind fun r9=>
 r9.asSl.bind fun s10=>
 y57_5 M free chosen g_0 g_1 g_2 i 0 paths seen next s10
 else
 none)
 else
 none)
 else
 y57_1 M free chosen g_0 g_1 g_2 next seen):=yq (by kernel_rfl)
theorem Y0s(M:YM)(free chosen:U)(g_0:Int)(g_1 g_2:U)(i k:Int)(paths seen next l:Sx):y57_5 M free chosen g_0 g_1 g_2 i k paths seen next l=
 (if(decide (k<(((l.es).length:Nat):Int)))=true then
 (if Sx.has l 1 k=true then
 ((l.es)[k.toNat]?).bind fun v1=>
 (v1.cell 0).bind fun c2=>
 (c2.asI .i64).bind fun n3=>
 (g_2.idx 3 n3).bind fun v4=>
 (U.struct v4 0 ks2).bind fun f5=>
 (y39 M chosen ((f5 2).i)).bind fun r6=>
 r6.toU.bind fun u7=>
 u7.asB.bind fun b8=>
 (if(!b8)=true then
 (y39 M (Sx.fz seen) ((f5 1).i)).bind fun r9=>
 r9.toU.bind fun u10=>
 u10.asB.bind fun b11=>
 some (!b11)
 else
 some (!b8)).bind fun q12=>
 (if q12=true then
 (Sx.app seen 1 ([.c (.int .i64 ((f5 1).i))])).bind fun s13=>
 (if Sx.has paths 1 i=true then
 ((paths.es)[i.toNat]?).bind fun v14=>
 (v14.cell 0).bind fun c15=>
 (y15 M c15).bind fun r16=>
 r16.asSl.bind fun s17=>
 (Sx.app s17 1 ([.c (.int .i64 ((f5 2).i)), .c (.int .i64 ((f5 1).i))])).bind fun s18=>
 (Sx.app next 1 ([Sx.fz s18])).bind fun s19=>
 y57_6 M free chosen g_0 g_1 g_2 i k paths s13 s19 l
 else
 none)
 else
 y57_6 M free chosen g_0 g_1 g_2 i k paths seen next l)
 else
 none)
 else
 y57_4 M free chosen g_0 g_1 g_2 (IntKind.wrap .i64 (i+1)) paths seen next):=yq (by kernel_rfl)
theorem J0W(M:YM)(free chosen:U)(g_0:Int)(g_1 g_2:U)(i k:Int)(paths seen next l:Sx):y57_6 M free chosen g_0 g_1 g_2 i k paths seen next l=
 y57_5 M free chosen g_0 g_1 g_2 i (IntKind.wrap .i64 (k+1)) paths seen next l:=yq (by kernel_rfl)
theorem W1u(M:YM)(g_0:Int)(g_1 g_2 c:U)(s:Int):y58 M g_0 g_1 g_2 c s=
 (y56 M g_0 g_1 g_2 c s).bind fun r1=>
 r1.toU.bind fun u2=>
 u2.asB.bind fun b3=>
 (if b3=true then
 some (.sl (⟨false,0,[]⟩:Sx))
 else
 y58_1 M c s g_0 g_1 g_2 (⟨true,1,[Sx.fz (⟨true,1,[.c (.int .i64 s)]⟩:Sx)]⟩:Sx) (⟨false,0,[]⟩:Sx)):=yq (by kernel_rfl)
theorem Q1F(M:YM)(c:U)(s g_0:Int)(g_1 g_2:U)(paths seen:Sx):y58_1 M c s g_0 g_1 g_2 paths seen=
 (if(decide (0<(((paths.es).length:Nat):Int)))=true then
 y58_2 M c s g_0 g_1 g_2 0 paths seen (⟨false,0,[]⟩:Sx)
 else
 some (.sl (⟨false,0,[]⟩:Sx))):=yq (by kernel_rfl)
theorem Y0t(M:YM)(c:U)(s g_0:Int)(g_1 g_2:U)(i:Int)(paths seen next:Sx):y58_2 M c s g_0 g_1 g_2 i paths seen next=
 (if(decide (i<(((paths.es).length:Nat):Int)))=true then
 (if Sx.has paths 1 i=true then
 (if Sx.has paths 1 i=true then
 ((paths.es)[i.toNat]?).bind fun v1=>
 (v1.cell 0).bind fun c2=>
 ((paths.es)[i.toNat]?).bind fun v3=>
 (v3.cell 0).bind fun c4=>
 c4.len.bind fun k5=>
 (c2.idx 1 (IntKind.wrap .i64 (((k5:Nat):Int) - 1))).bind fun v6=>
 (v6.cell 0).bind fun c7=>
 (c7.asI .i64).bind fun n8=>
 (y90 M g_0 g_1 g_2 n8).bind fun r9=>
 r9.asSl.bind fun s10=>
 y58_3 M c s g_0 g_1 g_2 i n8 0 paths seen next s10
 else
 none)
 else
 none)
 else
 y58_1 M c s g_0 g_1 g_2 next seen):=yq (by kernel_rfl)
theorem Y0u(M:YM)(c:U)(s g_0:Int)(g_1 g_2:U)(i vfrom k:Int)(paths seen next l:Sx):y58_3 M c s g_0 g_1 g_2 i vfrom k paths seen next l=
 (if(decide (k<(((l.es).length:Nat):Int)))=true then
 (if Sx.has l 1 k=true then
 ((l.es)[k.toNat]?).bind fun v1=>
 (v1.cell 0).bind fun c2=>
 (c2.asI .i64).bind fun n3=>
 (g_2.idx 3 n3).bind fun v4=>
 (U.struct v4 0 ks2).bind fun f5=>
 (c.idx 1 vfrom).bind fun v6=>
 (v6.cell 0).bind fun c7=>
 (y39 M c7 ((f5 2).i)).bind fun r8=>
 r8.toU.bind fun u9=>
 u9.asB.bind fun b10=>
 (if(!b10)=false then
 (y56 M g_0 g_1 g_2 c ((f5 1).i)).bind fun r11=>
 r11.toU.bind fun u12=>
 u12.asB.bind fun b13=>
 some b13
 else
 some (!b10)).bind fun q14=>
 (if q14=true then
 y58_3 M c s g_0 g_1 g_2 i vfrom (IntKind.wrap .i64 (k+1)) paths seen next l
 else
 (if(decide (((f5 1).i)=s))=true then
 (if Sx.has paths 1 i=true then
 ((paths.es)[i.toNat]?).bind fun v15=>
 (v15.cell 0).bind fun c16=>
 (y15 M c16).bind fun r17=>
 r17.asSl.bind fun s18=>
 (Sx.app s18 1 ([.c (.int .i64 ((f5 2).i)), .c (.int .i64 ((f5 1).i))])).bind fun s19=>
 (if scals s19.es=true then
 some (.sl s19)
 else
 none)
 else
 none)
 else
 (y39 M (Sx.fz seen) ((f5 1).i)).bind fun r20=>
 r20.toU.bind fun u21=>
 u21.asB.bind fun b22=>
 (if(!b22)=true then
 (Sx.app seen 1 ([.c (.int .i64 ((f5 1).i))])).bind fun s23=>
 (if Sx.has paths 1 i=true then
 ((paths.es)[i.toNat]?).bind fun v24=>
 (v24.cell 0).bind fun c25=>
 (y15 M c25).bind fun r26=>
 r26.asSl.bind fun s27=>
 (Sx.app s27 1 ([.c (.int .i64 ((f5 2).i)), .c (.int .i64 ((f5 1).i))])).bind fun s28=>
 (Sx.app next 1 ([Sx.fz s28])).bind fun s29=>
 y58_4 M c s g_0 g_1 g_2 i vfrom k paths s23 s29 l
 else
 none)
 else
 y58_4 M c s g_0 g_1 g_2 i vfrom k paths seen next l)))
 else
 none)
 else
 y58_2 M c s g_0 g_1 g_2 (IntKind.wrap .i64 (i+1)) paths seen next):=yq (by kernel_rfl)
theorem Q1G(M:YM)(c:U)(s g_0:Int)(g_1 g_2:U)(i vfrom k:Int)(paths seen next l:Sx):y58_4 M c s g_0 g_1 g_2 i vfrom k paths seen next l=
 y58_3 M c s g_0 g_1 g_2 i vfrom (IntKind.wrap .i64 (k+1)) paths seen next l:=yq (by kernel_rfl)
theorem W1v(M:YM)(s:U):y59 M s=
 (U.isNil .slice s).bind fun b1=>
 (if(b1 !=false)=true then
 some (.sl (⟨false,0,[]⟩:Sx))
 else
 (U.asL s).bind fun l2=>
 (Sx.app (⟨true,1,[]⟩:Sx) 1 l2.2).bind fun s3=>
 (if scals s3.es=true then
 some (.sl s3)
 else
 none)):=yq (by kernel_rfl)
theorem W1w(M:YM)(s:U)(v:Int):y60 M s v=
 (y92 M s v).bind fun r1=>
 r1.toU.bind fun u2=>
 (u2.asI .i64).bind fun n3=>
 some (.val (.c (.bool (decide (0<=n3))))):=yq (by kernel_rfl)
theorem W1x(M:YM)(g labels:U):y66 M g labels=
 g.asR.bind fun a1=>
 (U.cell a1.1 (a1.2+2)).bind fun c2=>
 c2.len.bind fun k3=>
 y66_1 M labels false false false false false false false false false false false false c2 ((k3:Nat):Int) 0 (.st [.c (.bool false), .c (.bool false), .c (.bool false), .c (.bool false), .c (.bool false), .c (.bool false), .c (.bool false), .c (.bool false), .c (.bool false), .c (.bool false), .c (.bool false), .c (.bool false)]):=yq (by kernel_rfl)
theorem Y0v(M:YM)(labels:U)(x4_0 x4_1 x4_2 x4_3 x4_4 x4_5 x4_6 x4_7 x4_8 x4_9 x4_10 x4_11:Bool)(x12:U)(x13 x14:Int)(out:U):y66_1 M labels x4_0 x4_1 x4_2 x4_3 x4_4 x4_5 x4_6 x4_7 x4_8 x4_9 x4_10 x4_11 x12 x13 x14 out=
 (if(decide (x14<x13))=true then
 (x12.idx 3 x14).bind fun v1=>
 (U.struct v1 0 ks2).bind fun f2=>
 (if 0<=((f2 2).i)/\((f2 2).i)<((12:Nat):Int)then
 (out.cell (0+((f2 2).i).toNat*1)).bind fun c3=>
 c3.asB.bind fun b4=>
 (if b4=false then
 (labels.idx 1 ((f2 0).i)).bind fun v5=>
 (labels.idx 1 ((f2 1).i)).bind fun v6=>
 (v5.cell 0).bind fun c7=>
 (c7.asI .i64).bind fun n8=>
 (v6.cell 0).bind fun c9=>
 (c9.asI .i64).bind fun n10=>
 some (!decide (n8=n10))
 else
 some b4).bind fun q11=>
 (if 0<=((f2 2).i)/\((f2 2).i)<((12:Nat):Int)then
 (U.setc out (0+((f2 2).i).toNat*1) (.c (.bool q11))).bind fun v12=>
 y66_1 M labels x4_0 x4_1 x4_2 x4_3 x4_4 x4_5 x4_6 x4_7 x4_8 x4_9 x4_10 x4_11 x12 x13 (IntKind.wrap .i64 (x14+1)) v12
 else
 none)
 else
 none)
 else
 (U.struct out 0 ks3).bind fun f13=>
 some (.val (.st [.c (.bool ((f13 0).b)), .c (.bool ((f13 1).b)), .c (.bool ((f13 2).b)), .c (.bool ((f13 3).b)), .c (.bool ((f13 4).b)), .c (.bool ((f13 5).b)), .c (.bool ((f13 6).b)), .c (.bool ((f13 7).b)), .c (.bool ((f13 8).b)), .c (.bool ((f13 9).b)), .c (.bool ((f13 10).b)), .c (.bool ((f13 11).b))]))):=yq (by kernel_rfl)
theorem W1y(M:YM)(g:U):y67 M g=
 y67_1 M g false false false false false false false false false false false false false false false false false false false false false false false false false false false false false false false false false false false false false false false false false false false false false false false false false false false false false false false false false false false false false false false false false false false false false false false false false false false false false false false false false false false false false false false false false false false false false false false false false false false false false false false false false false false false false false false false false false false false false false false false false false false false false false false false false false false false false false false false false false false false false false false false 0 (.st [.c (.bool false), .c (.bool false), .c (.bool false), .c (.bool false), .c (.bool false), .c (.bool false), .c (.bool false), .c (.bool false), .c (.bool false), .c (.bool false), .c (.bool false), .c (.bool false), .c (.bool false), .c (.bool false), .c (.bool false), .c (.bool false), .c (.bool false), .c (.bool false), .c (.bool false), .c (.bool false), .c (.bool false), .c (.bool false), .c (.bool false), .c (.bool false), .c (.bool false), .c (.bool false), .c (.bool false), .c (.bool false), .c (.bool false), .c (.bool false), .c (.bool false), .c (.bool false), .c (.bool false), .c (.bool false), .c (.bool false), .c (.bool false), .c (.bool false), .c (.bool false), .c (.bool false), .c (.bool false), .c (.bool false), .c (.bool false), .c (.bool false), .c (.bool false), .c (.bool false), .c (.bool false), .c (.bool false), .c (.bool false), .c (.bool false), .c (.bool false), .c (.bool false), .c (.bool false), .c (.bool false), .c (.bool false), .c (.bool false), .c (.bool false), .c (.bool false), .c (.bool false), .c (.bool false), .c (.bool false), .c (.bool false), .c (.bool false), .c (.bool false), .c (.bool false), .c (.bool false), .c (.bool false), .c (.bool false), .c (.bool false), .c (.bool false), .c (.bool false), .c (.bool false), .c (.bool false), .c (.bool false), .c (.bool false), .c (.bool false), .c (.bool false), .c (.bool false), .c (.bool false), .c (.bool false), .c (.bool false), .c (.bool false), .c (.bool false), .c (.bool false), .c (.bool false), .c (.bool false), .c (.bool false), .c (.bool false), .c (.bool false), .c (.bool false), .c (.bool false), .c (.bool false), .c (.bool false), .c (.bool false), .c (.bool false), .c (.bool false), .c (.bool false), .c (.bool false), .c (.bool false), .c (.bool false), .c (.bool false), .c (.bool false), .c (.bool false), .c (.bool false), .c (.bool false), .c (.bool false), .c (.bool false), .c (.bool false), .c (.bool false), .c (.bool false), .c (.bool false), .c (.bool false), .c (.bool false), .c (.bool false), .c (.bool false), .c (.bool false), .c (.bool false), .c (.bool false), .c (.bool false), .c (.bool false), .c (.bool false), .c (.bool false), .c (.bool false), .c (.bool false), .c (.bool false), .c (.bool false), .c (.bool false), .c (.bool false), .c (.bool false), .c (.bool false), .c (.bool false), .c (.bool false), .c (.bool false), .c (.bool false), .c (.bool false), .c (.bool false), .c (.bool false), .c (.bool false), .c (.bool false), .c (.bool false), .c (.bool false), .c (.bool false), .c (.bool false), .c (.bool false), .c (.bool false)]):=yq (by kernel_rfl)
theorem Y0w(M:YM)(g:U)(x2_0 x2_1 x2_2 x2_3 x2_4 x2_5 x2_6 x2_7 x2_8 x2_9 x2_10 x2_11 x2_12 x2_13 x2_14 x2_15 x2_16 x2_17 x2_18 x2_19 x2_20 x2_21 x2_22 x2_23 x2_24 x2_25 x2_26 x2_27 x2_28 x2_29 x2_30 x2_31 x2_32 x2_33 x2_34 x2_35 x2_36 x2_37 x2_38 x2_39 x2_40 x2_41 x2_42 x2_43 x2_44 x2_45 x2_46 x2_47 x2_48 x2_49 x2_50 x2_51 x2_52 x2_53 x2_54 x2_55 x2_56 x2_57 x2_58 x2_59 x2_60 x2_61 x2_62 x2_63 x2_64 x2_65 x2_66 x2_67 x2_68 x2_69 x2_70 x2_71 x2_72 x2_73 x2_74 x2_75 x2_76 x2_77 x2_78 x2_79 x2_80 x2_81 x2_82 x2_83 x2_84 x2_85 x2_86 x2_87 x2_88 x2_89 x2_90 x2_91 x2_92 x2_93 x2_94 x2_95 x2_96 x2_97 x2_98 x2_99 x2_100 x2_101 x2_102 x2_103 x2_104 x2_105 x2_106 x2_107 x2_108 x2_109 x2_110 x2_111 x2_112 x2_113 x2_114 x2_115 x2_116 x2_117 x2_118 x2_119 x2_120 x2_121 x2_122 x2_123 x2_124 x2_125 x2_126 x2_127 x2_128 x2_129 x2_130 x2_131 x2_132 x2_133 x2_134 x2_135 x2_136 x2_137 x2_138 x2_139 x2_140 x2_141 x2_142 x2_143:Bool)(x8:Int)(out:U):y67_1 M g x2_0 x2_1 x2_2 x2_3 x2_4 x2_5 x2_6 x2_7 x2_8 x2_9 x2_10 x2_11 x2_12 x2_13 x2_14 x2_15 x2_16 x2_17 x2_18 x2_19 x2_20 x2_21 x2_22 x2_23 x2_24 x2_25 x2_26 x2_27 x2_28 x2_29 x2_30 x2_31 x2_32 x2_33 x2_34 x2_35 x2_36 x2_37 x2_38 x2_39 x2_40 x2_41 x2_42 x2_43 x2_44 x2_45 x2_46 x2_47 x2_48 x2_49 x2_50 x2_51 x2_52 x2_53 x2_54 x2_55 x2_56 x2_57 x2_58 x2_59 x2_60 x2_61 x2_62 x2_63 x2_64 x2_65 x2_66 x2_67 x2_68 x2_69 x2_70 x2_71 x2_72 x2_73 x2_74 x2_75 x2_76 x2_77 x2_78 x2_79 x2_80 x2_81 x2_82 x2_83 x2_84 x2_85 x2_86 x2_87 x2_88 x2_89 x2_90 x2_91 x2_92 x2_93 x2_94 x2_95 x2_96 x2_97 x2_98 x2_99 x2_100 x2_101 x2_102 x2_103 x2_104 x2_105 x2_106 x2_107 x2_108 x2_109 x2_110 x2_111 x2_112 x2_113 x2_114 x2_115 x2_116 x2_117 x2_118 x2_119 x2_120 x2_121 x2_122 x2_123 x2_124 x2_125 x2_126 x2_127 x2_128 x2_129 x2_130 x2_131 x2_132 x2_133 x2_134 x2_135 x2_136 x2_137 x2_138 x2_139 x2_140 x2_141 x2_142 x2_143 x8 out=
 (if(decide (x8<12))=true then
 (if 0<=x8/\x8<((12:Nat):Int)then
 (if 0<=x8/\x8<((12:Nat):Int)then
 (U.setc out ((0+x8.toNat*12)+x8.toNat*1) (.c (.bool true))).bind fun v1=>
 y67_2 M g x2_0 x2_1 x2_2 x2_3 x2_4 x2_5 x2_6 x2_7 x2_8 x2_9 x2_10 x2_11 x2_12 x2_13 x2_14 x2_15 x2_16 x2_17 x2_18 x2_19 x2_20 x2_21 x2_22 x2_23 x2_24 x2_25 x2_26 x2_27 x2_28 x2_29 x2_30 x2_31 x2_32 x2_33 x2_34 x2_35 x2_36 x2_37 x2_38 x2_39 x2_40 x2_41 x2_42 x2_43 x2_44 x2_45 x2_46 x2_47 x2_48 x2_49 x2_50 x2_51 x2_52 x2_53 x2_54 x2_55 x2_56 x2_57 x2_58 x2_59 x2_60 x2_61 x2_62 x2_63 x2_64 x2_65 x2_66 x2_67 x2_68 x2_69 x2_70 x2_71 x2_72 x2_73 x2_74 x2_75 x2_76 x2_77 x2_78 x2_79 x2_80 x2_81 x2_82 x2_83 x2_84 x2_85 x2_86 x2_87 x2_88 x2_89 x2_90 x2_91 x2_92 x2_93 x2_94 x2_95 x2_96 x2_97 x2_98 x2_99 x2_100 x2_101 x2_102 x2_103 x2_104 x2_105 x2_106 x2_107 x2_108 x2_109 x2_110 x2_111 x2_112 x2_113 x2_114 x2_115 x2_116 x2_117 x2_118 x2_119 x2_120 x2_121 x2_122 x2_123 x2_124 x2_125 x2_126 x2_127 x2_128 x2_129 x2_130 x2_131 x2_132 x2_133 x2_134 x2_135 x2_136 x2_137 x2_138 x2_139 x2_140 x2_141 x2_142 x2_143 x8 x8 x8 0 v1
 else
 none)
 else
 none)
 else
 (U.part out 0 144).bind fun v2=>
 (U.split 144 v2).bind fun f3=>
 some (.val (.st [(f3 0),(f3 1),(f3 2),(f3 3),(f3 4),(f3 5),(f3 6),(f3 7),(f3 8),(f3 9),(f3 10),(f3 11),(f3 12),(f3 13),(f3 14),(f3 15),(f3 16),(f3 17),(f3 18),(f3 19),(f3 20),(f3 21),(f3 22),(f3 23),(f3 24),(f3 25),(f3 26),(f3 27),(f3 28),(f3 29),(f3 30),(f3 31),(f3 32),(f3 33),(f3 34),(f3 35),(f3 36),(f3 37),(f3 38),(f3 39),(f3 40),(f3 41),(f3 42),(f3 43),(f3 44),(f3 45),(f3 46),(f3 47),(f3 48),(f3 49),(f3 50),(f3 51),(f3 52),(f3 53),(f3 54),(f3 55),(f3 56),(f3 57),(f3 58),(f3 59),(f3 60),(f3 61),(f3 62),(f3 63),(f3 64),(f3 65),(f3 66),(f3 67),(f3 68),(f3 69),(f3 70),(f3 71),(f3 72),(f3 73),(f3 74),(f3 75),(f3 76),(f3 77),(f3 78),(f3 79),(f3 80),(f3 81),(f3 82),(f3 83),(f3 84),(f3 85),(f3 86),(f3 87),(f3 88),(f3 89),(f3 90),(f3 91),(f3 92),(f3 93),(f3 94),(f3 95),(f3 96),(f3 97),(f3 98),(f3 99),(f3 100),(f3 101),(f3 102),(f3 103),(f3 104),(f3 105),(f3 106),(f3 107),(f3 108),(f3 109),(f3 110),(f3 111),(f3 112),(f3 113),(f3 114),(f3 115),(f3 116),(f3 117),(f3 118),(f3 119),(f3 120),(f3 121),(f3 122),(f3 123),(f3 124),(f3 125),(f3 126),(f3 127),(f3 128),(f3 129),(f3 130),(f3 131),(f3 132),(f3 133),(f3 134),(f3 135),(f3 136),(f3 137),(f3 138),(f3 139),(f3 140),(f3 141),(f3 142),(f3 143)]))):=yq (by kernel_rfl)
theorem Y0x(M:YM)(g:U)(x2_0 x2_1 x2_2 x2_3 x2_4 x2_5 x2_6 x2_7 x2_8 x2_9 x2_10 x2_11 x2_12 x2_13 x2_14 x2_15 x2_16 x2_17 x2_18 x2_19 x2_20 x2_21 x2_22 x2_23 x2_24 x2_25 x2_26 x2_27 x2_28 x2_29 x2_30 x2_31 x2_32 x2_33 x2_34 x2_35 x2_36 x2_37 x2_38 x2_39 x2_40 x2_41 x2_42 x2_43 x2_44 x2_45 x2_46 x2_47 x2_48 x2_49 x2_50 x2_51 x2_52 x2_53 x2_54 x2_55 x2_56 x2_57 x2_58 x2_59 x2_60 x2_61 x2_62 x2_63 x2_64 x2_65 x2_66 x2_67 x2_68 x2_69 x2_70 x2_71 x2_72 x2_73 x2_74 x2_75 x2_76 x2_77 x2_78 x2_79 x2_80 x2_81 x2_82 x2_83 x2_84 x2_85 x2_86 x2_87 x2_88 x2_89 x2_90 x2_91 x2_92 x2_93 x2_94 x2_95 x2_96 x2_97 x2_98 x2_99 x2_100 x2_101 x2_102 x2_103 x2_104 x2_105 x2_106 x2_107 x2_108 x2_109 x2_110 x2_111 x2_112 x2_113 x2_114 x2_115 x2_116 x2_117 x2_118 x2_119 x2_120 x2_121 x2_122 x2_123 x2_124 x2_125 x2_126 x2_127 x2_128 x2_129 x2_130 x2_131 x2_132 x2_133 x2_134 x2_135 x2_136 x2_137 x2_138 x2_139 x2_140 x2_141 x2_142 x2_143:Bool)(a x8 x15 x16:Int)(out:U):y67_2 M g x2_0 x2_1 x2_2 x2_3 x2_4 x2_5 x2_6 x2_7 x2_8 x2_9 x2_10 x2_11 x2_12 x2_13 x2_14 x2_15 x2_16 x2_17 x2_18 x2_19 x2_20 x2_21 x2_22 x2_23 x2_24 x2_25 x2_26 x2_27 x2_28 x2_29 x2_30 x2_31 x2_32 x2_33 x2_34 x2_35 x2_36 x2_37 x2_38 x2_39 x2_40 x2_41 x2_42 x2_43 x2_44 x2_45 x2_46 x2_47 x2_48 x2_49 x2_50 x2_51 x2_52 x2_53 x2_54 x2_55 x2_56 x2_57 x2_58 x2_59 x2_60 x2_61 x2_62 x2_63 x2_64 x2_65 x2_66 x2_67 x2_68 x2_69 x2_70 x2_71 x2_72 x2_73 x2_74 x2_75 x2_76 x2_77 x2_78 x2_79 x2_80 x2_81 x2_82 x2_83 x2_84 x2_85 x2_86 x2_87 x2_88 x2_89 x2_90 x2_91 x2_92 x2_93 x2_94 x2_95 x2_96 x2_97 x2_98 x2_99 x2_100 x2_101 x2_102 x2_103 x2_104 x2_105 x2_106 x2_107 x2_108 x2_109 x2_110 x2_111 x2_112 x2_113 x2_114 x2_115 x2_116 x2_117 x2_118 x2_119 x2_120 x2_121 x2_122 x2_123 x2_124 x2_125 x2_126 x2_127 x2_128 x2_129 x2_130 x2_131 x2_132 x2_133 x2_134 x2_135 x2_136 x2_137 x2_138 x2_139 x2_140 x2_141 x2_142 x2_143 a x8 x15 x16 out=
 (if(decide (x16<x15))=true then
 (y70 M g a x16).bind fun r1=>
 r1.asTup.bind fun t2=>
 (t2[0]?).bind fun u3=>
 (u3.exact ks0).bind fun f4=>
 (t2[1]?).bind fun u5=>
 u5.asB.bind fun b6=>
 (if 0<=a/\a<((12:Nat):Int)then
 (if 0<=x16/\x16<((12:Nat):Int)then
 (if 0<=x16/\x16<((12:Nat):Int)then
 (U.setc out ((0+a.toNat*12)+x16.toNat*1) (.c (.bool b6))).bind fun v7=>
 (if 0<=a/\a<((12:Nat):Int)then
 (U.setc v7 ((0+x16.toNat*12)+a.toNat*1) (.c (.bool b6))).bind fun v8=>
 y67_2 M g x2_0 x2_1 x2_2 x2_3 x2_4 x2_5 x2_6 x2_7 x2_8 x2_9 x2_10 x2_11 x2_12 x2_13 x2_14 x2_15 x2_16 x2_17 x2_18 x2_19 x2_20 x2_21 x2_22 x2_23 x2_24 x2_25 x2_26 x2_27 x2_28 x2_29 x2_30 x2_31 x2_32 x2_33 x2_34 x2_35 x2_36 x2_37 x2_38 x2_39 x2_40 x2_41 x2_42 x2_43 x2_44 x2_45 x2_46 x2_47 x2_48 x2_49 x2_50 x2_51 x2_52 x2_53 x2_54 x2_55 x2_56 x2_57 x2_58 x2_59 x2_60 x2_61 x2_62 x2_63 x2_64 x2_65 x2_66 x2_67 x2_68 x2_69 x2_70 x2_71 x2_72 x2_73 x2_74 x2_75 x2_76 x2_77 x2_78 x2_79 x2_80 x2_81 x2_82 x2_83 x2_84 x2_85 x2_86 x2_87 x2_88 x2_89 x2_90 x2_91 x2_92 x2_93 x2_94 x2_95 x2_96 x2_97 x2_98 x2_99 x2_100 x2_101 x2_102 x2_103 x2_104 x2_105 x2_106 x2_107 x2_108 x2_109 x2_110 x2_111 x2_112 x2_113 x2_114 x2_115 x2_116 x2_117 x2_118 x2_119 x2_120 x2_121 x2_122 x2_123 x2_124 x2_125 x2_126 x2_127 x2_128 x2_129 x2_130 x2_131 x2_132 x2_133 x2_134 x2_135 x2_136 x2_137 x2_138 x2_139 x2_140 x2_141 x2_142 x2_143 a x8 x15 (IntKind.wrap .i64 (x16+1)) v8
 else
 none)
 else
 none)
 else
 none)
 else
 none)
 else
 y67_1 M g x2_0 x2_1 x2_2 x2_3 x2_4 x2_5 x2_6 x2_7 x2_8 x2_9 x2_10 x2_11 x2_12 x2_13 x2_14 x2_15 x2_16 x2_17 x2_18 x2_19 x2_20 x2_21 x2_22 x2_23 x2_24 x2_25 x2_26 x2_27 x2_28 x2_29 x2_30 x2_31 x2_32 x2_33 x2_34 x2_35 x2_36 x2_37 x2_38 x2_39 x2_40 x2_41 x2_42 x2_43 x2_44 x2_45 x2_46 x2_47 x2_48 x2_49 x2_50 x2_51 x2_52 x2_53 x2_54 x2_55 x2_56 x2_57 x2_58 x2_59 x2_60 x2_61 x2_62 x2_63 x2_64 x2_65 x2_66 x2_67 x2_68 x2_69 x2_70 x2_71 x2_72 x2_73 x2_74 x2_75 x2_76 x2_77 x2_78 x2_79 x2_80 x2_81 x2_82 x2_83 x2_84 x2_85 x2_86 x2_87 x2_88 x2_89 x2_90 x2_91 x2_92 x2_93 x2_94 x2_95 x2_96 x2_97 x2_98 x2_99 x2_100 x2_101 x2_102 x2_103 x2_104 x2_105 x2_106 x2_107 x2_108 x2_109 x2_110 x2_111 x2_112 x2_113 x2_114 x2_115 x2_116 x2_117 x2_118 x2_119 x2_120 x2_121 x2_122 x2_123 x2_124 x2_125 x2_126 x2_127 x2_128 x2_129 x2_130 x2_131 x2_132 x2_133 x2_134 x2_135 x2_136 x2_137 x2_138 x2_139 x2_140 x2_141 x2_142 x2_143 (IntKind.wrap .i64 (x8+1)) out):=yq (by kernel_rfl)
theorem W1z(M:YM)(holds:Bool)(e:Int):y68 M holds e=
 (if holds=true then
 some (.val (.c (.int .i64 0)))
 else
 some (.val (.c (.int .i64 e)))):=yq (by kernel_rfl)
theorem W1A(M:YM)(n lo hi:Int):y69 M n lo hi=
 (if(decide (lo<=n))=true then
 some (decide (n<=hi))
 else
 some (decide (lo<=n))).bind fun q1=>
 some (.val (.c (.bool q1))):=yq (by kernel_rfl)
theorem W1B(M:YM)(g:U)(a b:Int):y70 M g a b=
 g.asR.bind fun a1=>
 (U.cell a1.1 a1.2).bind fun c2=>
 (c2.asI .i64).bind fun n3=>
 y70_1 M g a b 0 0 0 0 n3 0:=yq (by kernel_rfl)
theorem Y0y(M:YM)(g:U)(a b x6_0 x6_1 x6_2 x6_3 x26 x27:Int):y70_1 M g a b x6_0 x6_1 x6_2 x6_3 x26 x27=
 (if(decide (x27<x26))=true then
 g.asR.bind fun a1=>
 (U.cell a1.1 (a1.2+4)).bind fun c2=>
 (c2.idx 12 x27).bind fun v3=>
 (if 0<=a/\a<((12:Nat):Int)then
 (v3.cell (0+a.toNat*1)).bind fun c4=>
 c4.len.bind fun k5=>
 (if(decide (((k5:Nat):Int)=0))=false then
 g.asR.bind fun a6=>
 (U.cell a6.1 (a6.2+4)).bind fun c7=>
 (c7.idx 12 x27).bind fun v8=>
 (if 0<=b/\b<((12:Nat):Int)then
 (v8.cell (0+b.toNat*1)).bind fun c9=>
 c9.len.bind fun k10=>
 some (decide (((k10:Nat):Int)=0))
 else
 none)
 else
 some (decide (((k5:Nat):Int)=0))).bind fun q11=>
 (if q11=true then
 y70_1 M g a b x6_0 x6_1 x6_2 x6_3 x26 (IntKind.wrap .i64 (x27+1))
 else
 g.asR.bind fun a12=>
 (U.cell a12.1 (a12.2+4)).bind fun c13=>
 (c13.idx 12 x27).bind fun v14=>
 (if 0<=a/\a<((12:Nat):Int)then
 (v14.cell (0+a.toNat*1)).bind fun c15=>
 c15.len.bind fun k16=>
 y70_2 M g a b x6_0 x6_1 x6_2 x6_3 x27 x26 x27 c15 ((k16:Nat):Int) 0
 else
 none))
 else
 none)
 else
 some (.tup [.st [.c (.int .i64 0), .c (.int .i64 0), .c (.int .i64 0), .c (.int .i64 0)], .c (.bool false)])):=yq (by kernel_rfl)
theorem Y0z(M:YM)(g:U)(a b x6_0 x6_1 x6_2 x6_3 s x26 x27:Int)(x62:U)(x63 x64:Int):y70_2 M g a b x6_0 x6_1 x6_2 x6_3 s x26 x27 x62 x63 x64=
 (if(decide (x64<x63))=true then
 (x62.idx 1 x64).bind fun v1=>
 (v1.cell 0).bind fun c2=>
 (c2.asI .i64).bind fun n3=>
 g.asR.bind fun a4=>
 (U.cell a4.1 (a4.2+4)).bind fun c5=>
 (c5.idx 12 s).bind fun v6=>
 (if 0<=b/\b<((12:Nat):Int)then
 (v6.cell (0+b.toNat*1)).bind fun c7=>
 c7.len.bind fun k8=>
 y70_3 M g a b x6_0 x6_1 x6_2 x6_3 s n3 x26 x27 x62 x63 x64 c7 ((k8:Nat):Int) 0
 else
 none)
 else
 g.asR.bind fun a9=>
 (U.cell a9.1 (a9.2+4)).bind fun c10=>
 (c10.idx 12 s).bind fun v11=>
 (if 0<=a/\a<((12:Nat):Int)then
 (v11.cell (0+a.toNat*1)).bind fun c12=>
 c12.len.bind fun k13=>
 y70_4 M g a b x6_0 x6_1 x6_2 x6_3 s x26 x27 c12 ((k13:Nat):Int) 0
 else
 none)):=yq (by kernel_rfl)
theorem Y0A(M:YM)(g:U)(a b x6_0 x6_1 x6_2 x6_3 s i x26 x27:Int)(x62:U)(x63 x64:Int)(x76:U)(x77 x78:Int):y70_3 M g a b x6_0 x6_1 x6_2 x6_3 s i x26 x27 x62 x63 x64 x76 x77 x78=
 (if(decide (x78<x77))=true then
 (x76.idx 1 x78).bind fun v1=>
 (v1.cell 0).bind fun c2=>
 (c2.asI .i64).bind fun n3=>
 g.asR.bind fun a4=>
 g.asR.bind fun a5=>
 (U.cell a4.1 (a4.2+2)).bind fun c6=>
 (c6.idx 3 i).bind fun v7=>
 (v7.cell 1).bind fun c8=>
 (c8.asI .i64).bind fun n9=>
 (U.cell a5.1 (a5.2+2)).bind fun c10=>
 (c10.idx 3 n3).bind fun v11=>
 (v11.cell 1).bind fun c12=>
 (c12.asI .i64).bind fun n13=>
 (y93 M g n9 b n13 a).bind fun r14=>
 r14.toU.bind fun u15=>
 u15.asB.bind fun b16=>
 (if(!b16)=true then
 some (.tup [.st [.c (.int .i64 s), .c (.int .i64 1), .c (.int .i64 i), .c (.int .i64 n3)], .c (.bool true)])
 else
 y70_3 M g a b x6_0 x6_1 x6_2 x6_3 s i x26 x27 x62 x63 x64 x76 x77 (IntKind.wrap .i64 (x78+1)))
 else
 y70_2 M g a b x6_0 x6_1 x6_2 x6_3 s x26 x27 x62 x63 (IntKind.wrap .i64 (x64+1))):=yq (by kernel_rfl)
theorem Y0B(M:YM)(g:U)(a b x6_0 x6_1 x6_2 x6_3 s x26 x27:Int)(x119:U)(x120 x121:Int):y70_4 M g a b x6_0 x6_1 x6_2 x6_3 s x26 x27 x119 x120 x121=
 (if(decide (x121<x120))=true then
 (x119.idx 1 x121).bind fun v1=>
 (v1.cell 0).bind fun c2=>
 (c2.asI .i64).bind fun n3=>
 g.asR.bind fun a4=>
 g.asR.bind fun a5=>
 (U.cell a4.1 (a4.2+4)).bind fun c6=>
 (U.cell a5.1 (a5.2+2)).bind fun c7=>
 (c7.idx 3 n3).bind fun v8=>
 (v8.cell 1).bind fun c9=>
 (c9.asI .i64).bind fun n10=>
 (c6.idx 12 n10).bind fun v11=>
 (if 0<=b/\b<((12:Nat):Int)then
 (v11.cell (0+b.toNat*1)).bind fun c12=>
 c12.len.bind fun k13=>
 y70_5 M g a b x6_0 x6_1 x6_2 x6_3 s n3 x26 x27 x119 x120 x121 c12 ((k13:Nat):Int) 0
 else
 none)
 else
 g.asR.bind fun a14=>
 (U.cell a14.1 (a14.2+4)).bind fun c15=>
 (c15.idx 12 s).bind fun v16=>
 (if 0<=b/\b<((12:Nat):Int)then
 (v16.cell (0+b.toNat*1)).bind fun c17=>
 c17.len.bind fun k18=>
 y70_6 M g a b x6_0 x6_1 x6_2 x6_3 s x26 x27 c17 ((k18:Nat):Int) 0 (⟨false,0,[]⟩:Sx)
 else
 none)):=yq (by kernel_rfl)
theorem Y0C(M:YM)(g:U)(a b x6_0 x6_1 x6_2 x6_3 s i x26 x27:Int)(x119:U)(x120 x121:Int)(x141:U)(x142 x143:Int):y70_5 M g a b x6_0 x6_1 x6_2 x6_3 s i x26 x27 x119 x120 x121 x141 x142 x143=
 (if(decide (x143<x142))=true then
 (x141.idx 1 x143).bind fun v1=>
 (v1.cell 0).bind fun c2=>
 (c2.asI .i64).bind fun n3=>
 (y94 M g s i n3).bind fun r4=>
 r4.toU.bind fun u5=>
 u5.asB.bind fun b6=>
 (if(!b6)=true then
 some (.tup [.st [.c (.int .i64 s), .c (.int .i64 2), .c (.int .i64 i), .c (.int .i64 n3)], .c (.bool true)])
 else
 y70_5 M g a b x6_0 x6_1 x6_2 x6_3 s i x26 x27 x119 x120 x121 x141 x142 (IntKind.wrap .i64 (x143+1)))
 else
 y70_4 M g a b x6_0 x6_1 x6_2 x6_3 s x26 x27 x119 x120 (IntKind.wrap .i64 (x121+1))):=yq (by kernel_rfl)
theorem Y0D(M:YM)(g:U)(a b x6_0 x6_1 x6_2 x6_3 s x26 x27:Int)(x167:U)(x168 x169:Int)(found:Sx):y70_6 M g a b x6_0 x6_1 x6_2 x6_3 s x26 x27 x167 x168 x169 found=
 (if(decide (x169<x168))=true then
 (x167.idx 1 x169).bind fun v1=>
 (v1.cell 0).bind fun c2=>
 (c2.asI .i64).bind fun n3=>
 g.asR.bind fun a4=>
 g.asR.bind fun a5=>
 (U.cell a4.1 (a4.2+4)).bind fun c6=>
 (U.cell a5.1 (a5.2+2)).bind fun c7=>
 (c7.idx 3 n3).bind fun v8=>
 (v8.cell 1).bind fun c9=>
 (c9.asI .i64).bind fun n10=>
 (c6.idx 12 n10).bind fun v11=>
 (if 0<=a/\a<((12:Nat):Int)then
 (v11.cell (0+a.toNat*1)).bind fun c12=>
 c12.len.bind fun k13=>
 y70_7 M g a b x6_0 x6_1 x6_2 x6_3 s n3 x26 x27 x167 x168 x169 c12 ((k13:Nat):Int) 0 found
 else
 none)
 else
 (if(decide (0<(((found.es).length:Nat):Int)))=true then
 (y95 M (Sx.fz found) (.fn 96 [] [])).bind fun r14=>
 r14.toU.bind fun u15=>
 (u15.exact ks0).bind fun f16=>
 some (.tup [.st [.c (.int .i64 ((f16 0).i)), .c (.int .i64 ((f16 1).i)), .c (.int .i64 ((f16 2).i)), .c (.int .i64 ((f16 3).i))], .c (.bool true)])
 else
 y70_1 M g a b x6_0 x6_1 x6_2 x6_3 x26 (IntKind.wrap .i64 (x27+1)))):=yq (by kernel_rfl)
theorem Y0E(M:YM)(g:U)(a b x6_0 x6_1 x6_2 x6_3 s k x26 x27:Int)(x167:U)(x168 x169:Int)(x189:U)(x190 x191:Int)(found:Sx):y70_7 M g a b x6_0 x6_1 x6_2 x6_3 s k x26 x27 x167 x168 x169 x189 x190 x191 found=
 (if(decide (x191<x190))=true then
 (x189.idx 1 x191).bind fun v1=>
 (v1.cell 0).bind fun c2=>
 (c2.asI .i64).bind fun n3=>
 (y94 M g s k n3).bind fun r4=>
 r4.toU.bind fun u5=>
 u5.asB.bind fun b6=>
 (if(!b6)=true then
 (Sx.app found 4 ([.st [.c (.int .i64 s), .c (.int .i64 3), .c (.int .i64 n3), .c (.int .i64 k)]])).bind fun s7=>
 y70_8 M g a b x6_0 x6_1 x6_2 x6_3 s k x26 x27 x167 x168 x169 x189 x190 x191 s7
 else
 y70_8 M g a b x6_0 x6_1 x6_2 x6_3 s k x26 x27 x167 x168 x169 x189 x190 x191 found)
 else
 y70_6 M g a b x6_0 x6_1 x6_2 x6_3 s x26 x27 x167 x168 (IntKind.wrap .i64 (x169+1)) found):=yq (by kernel_rfl)
theorem Q1H(M:YM)(g:U)(a b x6_0 x6_1 x6_2 x6_3 s k x26 x27:Int)(x167:U)(x168 x169:Int)(x189:U)(x190 x191:Int)(found:Sx):y70_8 M g a b x6_0 x6_1 x6_2 x6_3 s k x26 x27 x167 x168 x169 x189 x190 x191 found=
 y70_7 M g a b x6_0 x6_1 x6_2 x6_3 s k x26 x27 x167 x168 x169 x189 x190 (IntKind.wrap .i64 (x191+1)) found:=yq (by kernel_rfl)
theorem W1C(M:YM)(g_0:Int)(g_1 g_2:U)(s a:Int):y71 M g_0 g_1 g_2 s a=
 y71_1 M s a g_0 g_1 g_2 0 (⟨false,0,[]⟩:Sx):=yq (by kernel_rfl)
theorem Y0F(M:YM)(s a g_0:Int)(g_1 g_2:U)(i:Int)(out:Sx):y71_1 M s a g_0 g_1 g_2 i out=
 g_2.len.bind fun k1=>
 (if(decide (i<((k1:Nat):Int)))=true then
 (g_2.idx 3 i).bind fun v2=>
 (v2.cell 0).bind fun c3=>
 (c3.asI .i64).bind fun n4=>
 (if(decide (n4=s))=true then
 (g_2.idx 3 i).bind fun v5=>
 (v5.cell 2).bind fun c6=>
 (c6.asI .i64).bind fun n7=>
 some (decide (n7=a))
 else
 some (decide (n4=s))).bind fun q8=>
 (if q8=true then
 (Sx.app out 1 ([.c (.int .i64 i)])).bind fun s9=>
 y71_2 M s a g_0 g_1 g_2 i s9
 else
 y71_2 M s a g_0 g_1 g_2 i out)
 else
 (if scals out.es=true then
 some (.sl out)
 else
 none)):=yq (by kernel_rfl)
theorem Y0G(M:YM)(s a g_0:Int)(g_1 g_2:U)(i:Int)(out:Sx):y71_2 M s a g_0 g_1 g_2 i out=
 y71_1 M s a g_0 g_1 g_2 (IntKind.wrap .i64 (i+1)) out:=yq (by kernel_rfl)
theorem W1D(M:YM)(g_0:Int)(g_1 g_2:U)(x y:Int):y72 M g_0 g_1 g_2 x y=
 (g_2.idx 3 x).bind fun v1=>
 (g_2.idx 3 y).bind fun v2=>
 (U.struct v1 0 ks2).bind fun f3=>
 (U.struct v2 0 ks2).bind fun f4=>
 y72_1 M g_0 g_1 g_2 ((f3 0).i) ((f3 1).i) ((f3 2).i) ((f4 0).i) ((f4 1).i) ((f4 2).i) 0:=yq (by kernel_rfl)
theorem Y0H(M:YM)(g_0:Int)(g_1 g_2:U)(t_0 t_1 t_2 u_0 u_1 u_2 v:Int):y72_1 M g_0 g_1 g_2 t_0 t_1 t_2 u_0 u_1 u_2 v=
 (if(decide (v<g_0))=true then
 (y99 M g_0 g_1 g_2 t_1 u_2 v).bind fun r1=>
 r1.toU.bind fun u2=>
 u2.asB.bind fun b3=>
 (if b3=true then
 (y99 M g_0 g_1 g_2 u_1 t_2 v).bind fun r4=>
 r4.toU.bind fun u5=>
 u5.asB.bind fun b6=>
 some b6
 else
 some b3).bind fun q7=>
 (if q7=true then
 some (.val (.c (.bool true)))
 else
 y72_1 M g_0 g_1 g_2 t_0 t_1 t_2 u_0 u_1 u_2 (IntKind.wrap .i64 (v+1)))
 else
 some (.val (.c (.bool false)))):=yq (by kernel_rfl)
theorem W1E(M:YM)(g_0:Int)(g_1 g_2:U)(x y:Int):y73 M g_0 g_1 g_2 x y=
 (g_2.idx 3 x).bind fun v1=>
 (g_2.idx 3 y).bind fun v2=>
 (U.struct v1 0 ks2).bind fun f3=>
 (U.struct v2 0 ks2).bind fun f4=>
 y73_1 M g_0 g_1 g_2 ((f3 0).i) ((f3 1).i) ((f3 2).i) ((f4 0).i) ((f4 1).i) ((f4 2).i) 0:=yq (by kernel_rfl)
theorem Y0I(M:YM)(g_0:Int)(g_1 g_2:U)(first_0 first_1 first_2 second_0 second_1 second_2 u:Int):y73_1 M g_0 g_1 g_2 first_0 first_1 first_2 second_0 second_1 second_2 u=
 (if(decide (u<g_0))=true then
 (y99 M g_0 g_1 g_2 first_0 second_2 u).bind fun r1=>
 r1.toU.bind fun u2=>
 u2.asB.bind fun b3=>
 (if b3=true then
 (y99 M g_0 g_1 g_2 u first_2 second_1).bind fun r4=>
 r4.toU.bind fun u5=>
 u5.asB.bind fun b6=>
 some b6
 else
 some b3).bind fun q7=>
 (if q7=true then
 some (.val (.c (.bool true)))
 else
 y73_1 M g_0 g_1 g_2 first_0 first_1 first_2 second_0 second_1 second_2 (IntKind.wrap .i64 (u+1)))
 else
 some (.val (.c (.bool false)))):=yq (by kernel_rfl)
theorem J1p(M:YM)(g:U)(s:Int):y74 M g s=
 g.asR.bind fun a1=>
 (U.cell a1.1 (a1.2+4)).bind fun c2=>
 (c2.idx 12 s).bind fun v3=>
 (U.struct v3 0 ks4).bind fun f4=>
 y74_1 M (f4 0) (f4 1) (f4 2) (f4 3) (f4 4) (f4 5) (f4 6) (f4 7) (f4 8) (f4 9) (f4 10) (f4 11) 0 (⟨false,0,[]⟩:Sx):=yq (by kernel_rfl)
theorem w0A(M:YM)(x14_0 x14_1 x14_2 x14_3 x14_4 x14_5 x14_6 x14_7 x14_8 x14_9 x14_10 x14_11:U)(x15:Int)(out:Sx):y74_1 M x14_0 x14_1 x14_2 x14_3 x14_4 x14_5 x14_6 x14_7 x14_8 x14_9 x14_10 x14_11 x15 out=
 (if(decide (x15<12))=true then
 (if 0<=x15/\x15<((12:Nat):Int)then
 (([x14_0,x14_1,x14_2,x14_3,x14_4,x14_5,x14_6,x14_7,x14_8,x14_9,x14_10,x14_11]:List U)[x15.toNat]?).bind fun c1=>
 c1.len.bind fun k2=>
 (if(decide (0<((k2:Nat):Int)))=true then
 (Sx.app out 1 ([.c (.int .i64 x15)])).bind fun s3=>
 y74_2 M x14_0 x14_1 x14_2 x14_3 x14_4 x14_5 x14_6 x14_7 x14_8 x14_9 x14_10 x14_11 x15 s3
 else
 y74_2 M x14_0 x14_1 x14_2 x14_3 x14_4 x14_5 x14_6 x14_7 x14_8 x14_9 x14_10 x14_11 x15 out)
 else
 none)
 else
 (if scals out.es=true then
 some (.sl out)
 else
 none)):=yq (by kernel_rfl)
theorem Y0J(M:YM)(x14_0 x14_1 x14_2 x14_3 x14_4 x14_5 x14_6 x14_7 x14_8 x14_9 x14_10 x14_11:U)(x15:Int)(out:Sx):y74_2 M x14_0 x14_1 x14_2 x14_3 x14_4 x14_5 x14_6 x14_7 x14_8 x14_9 x14_10 x14_11 x15 out=
 y74_1 M x14_0 x14_1 x14_2 x14_3 x14_4 x14_5 x14_6 x14_7 x14_8 x14_9 x14_10 x14_11 (IntKind.wrap .i64 (x15+1)) out:=yq (by kernel_rfl)
theorem W1F(M:YM)(a_0 a_1 a_2 b_0 b_1 b_2:Int):y78 M a_0 a_1 a_2 b_0 b_1 b_2=
 (y98 M a_0 b_0).bind fun r1=>
 r1.toU.bind fun u2=>
 (u2.asI .i64).bind fun n3=>
 (y98 M a_1 b_1).bind fun r4=>
 r4.toU.bind fun u5=>
 (u5.asI .i64).bind fun n6=>
 (y98 M a_2 b_2).bind fun r7=>
 r7.toU.bind fun u8=>
 (u8.asI .i64).bind fun n9=>
 (y97 M (Sx.fz (⟨true,1,[.c (.int .i64 n3), .c (.int .i64 n6), .c (.int .i64 n9)]⟩:Sx))).bind fun r10=>
 r10.toU.bind fun u11=>
 (u11.asI .i64).bind fun n12=>
 some (.val (.c (.int .i64 n12))):=yq (by kernel_rfl)
theorem J1q(M:YM)(s f:U):y79 M s f=
 (y82 M s f).bind fun r1=>
 r1.toU.bind fun u2=>
 (u2.asI .i64).bind fun n3=>
 some (.val (.c (.bool (decide (0<=n3))))):=yq (by kernel_rfl)
theorem W1G(M:YM)(n:Int):y80 M n=
 (y69 M n 0 10000).bind fun r1=>
 r1.toU.bind fun u2=>
 u2.asB.bind fun b3=>
 some (.val (.c (.bool (!b3)))):=yq (by kernel_rfl)
theorem Q0X(M:YM)(s f:U):y82 M s f=
 s.len.bind fun k1=>
 y82_1 M s f ((k1:Nat):Int) 0:=yq (by kernel_rfl)
theorem z0M(M:YM)(s f:U)(x7 x8:Int):y82_1 M s f x7 x8=
 (if(decide (x8<x7))=true then
 (s.idx 1 x8).bind fun v1=>
 (v1.cell 0).bind fun c2=>
 (c2.asI .i64).bind fun n3=>
 f.asF.bind fun g4=>
 (ycall M g4.1 (g4.2.1++[.c (.int .i64 n3)]++g4.2.2)).bind fun r5=>
 r5.toU.bind fun u6=>
 u6.asB.bind fun b7=>
 (if b7=true then
 some (.val (.c (.int .i64 x8)))
 else
 y82_1 M s f x7 (IntKind.wrap .i64 (x8+1)))
 else
 some (.val (.c (.int .i64 (-1))))):=yq (by kernel_rfl)
theorem W1H(M:YM)(a:Int)(x1:U):y83 M a x1=
 x1.asR.bind fun a1=>
 (U.cell a1.1 a1.2).bind fun c2=>
 c2.asR.bind fun a3=>
 (if 0<=a/\a<((12:Nat):Int)then
 (U.cell a3.1 ((a3.2+145)+a.toNat*1)).bind fun c4=>
 c4.asB.bind fun b5=>
 some (.val (.c (.bool b5)))
 else
 none):=yq (by kernel_rfl)
theorem W1I(M:YM)(c:U)(s:Int):y84 M c s=
 c.asR.bind fun a1=>
 c.asR.bind fun a2=>
 (U.cell a1.1 (a1.2+157)).bind fun c3=>
 (c3.idx 1 s).bind fun v4=>
 (v4.cell 0).bind fun c5=>
 (U.cell a2.1 a2.2).bind fun c6=>
 (y74 M c6 s).bind fun r7=>
 r7.asSl.bind fun s8=>
 (y105 M c5 (Sx.fz s8)).bind fun r9=>
 r9.toU.bind fun u10=>
 u10.asB.bind fun b11=>
 some (.val (.c (.bool b11))):=yq (by kernel_rfl)
theorem W1J(M:YM)(x_0 x_1 x_2:Int)(x1:U):y85 M x_0 x_1 x_2 x1=
 x1.asR.bind fun a1=>
 (U.cell a1.1 a1.2).bind fun c2=>
 (y86 M c2 x_0 x_2).bind fun r3=>
 r3.toU.bind fun u4=>
 u4.asB.bind fun b5=>
 (if b5=true then
 x1.asR.bind fun a6=>
 (U.cell a6.1 a6.2).bind fun c7=>
 (y84 M c7 x_1).bind fun r8=>
 r8.toU.bind fun u9=>
 u9.asB.bind fun b10=>
 some (!b10)
 else
 some b5).bind fun q11=>
 some (.val (.c (.bool q11))):=yq (by kernel_rfl)
theorem W1K(M:YM)(c:U)(s a:Int):y86 M c s a=
 c.asR.bind fun a1=>
 (U.cell a1.1 (a1.2+157)).bind fun c2=>
 (c2.idx 1 s).bind fun v3=>
 (v3.cell 0).bind fun c4=>
 (y60 M c4 a).bind fun r5=>
 r5.toU.bind fun u6=>
 u6.asB.bind fun b7=>
 some (.val (.c (.bool b7))):=yq (by kernel_rfl)
theorem W1L(M:YM)(a b:U):y88 M a b=
 y88_1 M a b 0:=yq (by kernel_rfl)
theorem w0B(M:YM)(a b:U)(i:Int):y88_1 M a b i=
 a.len.bind fun k1=>
 (if(decide (i<((k1:Nat):Int)))=true then
 b.len.bind fun k2=>
 some (decide (i<((k2:Nat):Int)))
 else
 some (decide (i<((k1:Nat):Int)))).bind fun q3=>
 (if q3=true then
 (a.idx 1 i).bind fun v4=>
 (b.idx 1 i).bind fun v5=>
 (v4.cell 0).bind fun c6=>
 (c6.asI .i64).bind fun n7=>
 (v5.cell 0).bind fun c8=>
 (c8.asI .i64).bind fun n9=>
 (if(!decide (n7=n9))=true then
 (a.idx 1 i).bind fun v10=>
 (b.idx 1 i).bind fun v11=>
 (v10.cell 0).bind fun c12=>
 (c12.asI .i64).bind fun n13=>
 (v11.cell 0).bind fun c14=>
 (c14.asI .i64).bind fun n15=>
 (y107 M (decide (n13<n15))).bind fun r16=>
 r16.toU.bind fun u17=>
 (u17.asI .i64).bind fun n18=>
 some (.val (.c (.int .i64 (IntKind.wrap .i64 (1 - (IntKind.wrap .i64 (2*n18)))))))
 else
 y88_1 M a b (IntKind.wrap .i64 (i+1)))
 else
 a.len.bind fun k19=>
 b.len.bind fun k20=>
 (y107 M (decide (((k20:Nat):Int)<((k19:Nat):Int)))).bind fun r21=>
 r21.toU.bind fun u22=>
 (u22.asI .i64).bind fun n23=>
 a.len.bind fun k24=>
 b.len.bind fun k25=>
 (y107 M (decide (((k24:Nat):Int)<((k25:Nat):Int)))).bind fun r26=>
 r26.toU.bind fun u27=>
 (u27.asI .i64).bind fun n28=>
 some (.val (.c (.int .i64 (IntKind.wrap .i64 (n23 - n28)))))):=yq (by kernel_rfl)
theorem W1M(M:YM)(x_0 x_1 x_2:Int):y89 M x_0 x_1 x_2=
 (if scals ([.c (.int .i64 x_0), .c (.int .i64 x_1), .c (.int .i64 x_2)])=true then
 some (.sl (⟨true,1,[.c (.int .i64 x_0), .c (.int .i64 x_1), .c (.int .i64 x_2)]⟩:Sx))
 else
 none):=yq (by kernel_rfl)
theorem W1N(M:YM)(g_0:Int)(g_1 g_2:U)(s:Int):y90 M g_0 g_1 g_2 s=
 y90_1 M s g_0 g_1 g_2 0 (⟨false,0,[]⟩:Sx):=yq (by kernel_rfl)
theorem Y0K(M:YM)(s g_0:Int)(g_1 g_2:U)(a:Int)(out:Sx):y90_1 M s g_0 g_1 g_2 a out=
 (if(decide (a<12))=true then
 (y71 M g_0 g_1 g_2 s a).bind fun r1=>
 r1.asSl.bind fun s2=>
 (Sx.app out 1 s2.es).bind fun s3=>
 y90_1 M s g_0 g_1 g_2 (IntKind.wrap .i64 (a+1)) s3
 else
 (if scals out.es=true then
 some (.sl out)
 else
 none)):=yq (by kernel_rfl)
theorem W1O(M:YM)(free:U)(a:Int)(l:U):y91 M free a l=
 y91_1 M free a l 0:=yq (by kernel_rfl)
theorem Y0L(M:YM)(free:U)(a:Int)(l:U)(i:Int):y91_1 M free a l i=
 l.len.bind fun k1=>
 (if(decide (i<((k1:Nat):Int)))=true then
 (free.idx 1 a).bind fun v2=>
 (l.idx 1 i).bind fun v3=>
 (v2.cell 0).bind fun c4=>
 (v3.cell 0).bind fun c5=>
 (c5.asI .i64).bind fun n6=>
 (y39 M c4 n6).bind fun r7=>
 r7.toU.bind fun u8=>
 u8.asB.bind fun b9=>
 (if(!b9)=true then
 some (.val (.c (.bool true)))
 else
 y91_1 M free a l (IntKind.wrap .i64 (i+1)))
 else
 some (.val (.c (.bool false)))):=yq (by kernel_rfl)
theorem W1P(M:YM)(s:U)(v:Int):y92 M s v=
 s.len.bind fun k1=>
 y92_1 M s v ((k1:Nat):Int) 0:=yq (by kernel_rfl)
theorem Y0M(M:YM)(s:U)(v x7 x8:Int):y92_1 M s v x7 x8=
 (if(decide (x8<x7))=true then
 (s.idx 1 x8).bind fun v1=>
 (v1.cell 0).bind fun c2=>
 (c2.asI .i64).bind fun n3=>
 (if(decide (v=n3))=true then
 some (.val (.c (.int .i64 x8)))
 else
 y92_1 M s v x7 (IntKind.wrap .i64 (x8+1)))
 else
 some (.val (.c (.int .i64 (-1))))):=yq (by kernel_rfl)
theorem W1Q(M:YM)(g:U)(s a u b:Int):y93 M g s a u b=
 g.asR.bind fun a1=>
 (U.cell a1.1 (a1.2+4)).bind fun c2=>
 (c2.idx 12 s).bind fun v3=>
 (if 0<=a/\a<((12:Nat):Int)then
 (v3.cell (0+a.toNat*1)).bind fun c4=>
 c4.len.bind fun k5=>
 y93_1 M g u b c4 ((k5:Nat):Int) 0
 else
 none):=yq (by kernel_rfl)
theorem Y0N(M:YM)(g:U)(u b:Int)(x21:U)(x22 x23:Int):y93_1 M g u b x21 x22 x23=
 (if(decide (x23<x22))=true then
 (x21.idx 1 x23).bind fun v1=>
 (v1.cell 0).bind fun c2=>
 (c2.asI .i64).bind fun n3=>
 g.asR.bind fun a4=>
 (U.cell a4.1 (a4.2+2)).bind fun c5=>
 (c5.idx 3 n3).bind fun v6=>
 (v6.cell 1).bind fun c7=>
 (c7.asI .i64).bind fun n8=>
 (y108 M g u n8 b).bind fun r9=>
 r9.toU.bind fun u10=>
 u10.asB.bind fun b11=>
 (if b11=true then
 some (.val (.c (.bool true)))
 else
 y93_1 M g u b x21 x22 (IntKind.wrap .i64 (x23+1)))
 else
 some (.val (.c (.bool false)))):=yq (by kernel_rfl)
theorem W1R(M:YM)(g:U)(s a b:Int):y94 M g s a b=
 g.one.bind fun u1=>
 u1.asR.bind fun a2=>
 (U.cell a2.1 (a2.2+2)).bind fun c3=>
 (c3.idx 3 a).bind fun v4=>
 (U.struct v4 0 ks2).bind fun f5=>
 u1.asR.bind fun a6=>
 (U.cell a6.1 (a6.2+2)).bind fun c7=>
 (c7.idx 3 b).bind fun v8=>
 (U.struct v8 0 ks2).bind fun f9=>
 u1.asR.bind fun a10=>
 (U.cell a10.1 (a10.2+4)).bind fun c11=>
 (c11.idx 12 s).bind fun v12=>
 (if 0<=((f9 2).i)/\((f9 2).i)<((12:Nat):Int)then
 (v12.cell (0+((f9 2).i).toNat*1)).bind fun c13=>
 (y79 M c13 (.fn 109 [] [.ref (.st [u1]) 0, .ref (.st [.c (.int .i64 ((f9 0).i)), .c (.int .i64 ((f9 1).i)), .c (.int .i64 ((f9 2).i))]) 0, .ref (.st [.c (.int .i64 ((f5 0).i)), .c (.int .i64 ((f5 1).i)), .c (.int .i64 ((f5 2).i))]) 0])).bind fun r14=>
 r14.toU.bind fun u15=>
 u15.asB.bind fun b16=>
 some (.val (.c (.bool b16)))
 else
 none):=yq (by kernel_rfl)
theorem W1S(M:YM)(x cmp:U):y95 M x cmp=
 x.len.bind fun k1=>
 (if(decide (((k1:Nat):Int)<1))=true then
 none
 else
 y95_1 M x cmp 0 0 0 0):=yq (by kernel_rfl)
theorem Q1I(M:YM)(x cmp:U)(x4_0 x4_1 x4_2 x4_3:Int):y95_1 M x cmp x4_0 x4_1 x4_2 x4_3=
 (x.idx 4 0).bind fun v1=>
 (U.struct v1 0 ks0).bind fun f2=>
 y95_2 M x cmp x4_0 x4_1 x4_2 x4_3 ((f2 0).i) ((f2 1).i) ((f2 2).i) ((f2 3).i) 1:=yq (by kernel_rfl)
theorem Y0O(M:YM)(x cmp:U)(x4_0 x4_1 x4_2 x4_3 m_0 m_1 m_2 m_3 i:Int):y95_2 M x cmp x4_0 x4_1 x4_2 x4_3 m_0 m_1 m_2 m_3 i=
 x.len.bind fun k1=>
 (if(decide (i<((k1:Nat):Int)))=true then
 (x.idx 4 i).bind fun v2=>
 (U.struct v2 0 ks0).bind fun f3=>
 cmp.asF.bind fun g4=>
 (ycall M g4.1 (g4.2.1++[.st [.c (.int .i64 ((f3 0).i)), .c (.int .i64 ((f3 1).i)), .c (.int .i64 ((f3 2).i)), .c (.int .i64 ((f3 3).i))], .st [.c (.int .i64 m_0), .c (.int .i64 m_1), .c (.int .i64 m_2), .c (.int .i64 m_3)]]++g4.2.2)).bind fun r5=>
 r5.toU.bind fun u6=>
 (u6.asI .i64).bind fun n7=>
 (if(decide (n7<0))=true then
 (x.idx 4 i).bind fun v8=>
 (U.struct v8 0 ks0).bind fun f9=>
 y95_3 M x cmp x4_0 x4_1 x4_2 x4_3 ((f9 0).i) ((f9 1).i) ((f9 2).i) ((f9 3).i) i
 else
 y95_3 M x cmp x4_0 x4_1 x4_2 x4_3 m_0 m_1 m_2 m_3 i)
 else
 some (.val (.st [.c (.int .i64 m_0), .c (.int .i64 m_1), .c (.int .i64 m_2), .c (.int .i64 m_3)]))):=yq (by kernel_rfl)
theorem Q1J(M:YM)(x cmp:U)(x4_0 x4_1 x4_2 x4_3 m_0 m_1 m_2 m_3 i:Int):y95_3 M x cmp x4_0 x4_1 x4_2 x4_3 m_0 m_1 m_2 m_3 i=
 y95_2 M x cmp x4_0 x4_1 x4_2 x4_3 m_0 m_1 m_2 m_3 (IntKind.wrap .i64 (i+1)):=yq (by kernel_rfl)
theorem W1T(M:YM)(x_0 x_1 x_2 x_3 y_0 y_1 y_2 y_3:Int):y96 M x_0 x_1 x_2 x_3 y_0 y_1 y_2 y_3=
 (y98 M x_2 y_2).bind fun r1=>
 r1.toU.bind fun u2=>
 (u2.asI .i64).bind fun n3=>
 (y98 M x_3 y_3).bind fun r4=>
 r4.toU.bind fun u5=>
 (u5.asI .i64).bind fun n6=>
 (y97 M (Sx.fz (⟨true,1,[.c (.int .i64 n3), .c (.int .i64 n6)]⟩:Sx))).bind fun r7=>
 r7.toU.bind fun u8=>
 (u8.asI .i64).bind fun n9=>
 some (.val (.c (.int .i64 n9))):=yq (by kernel_rfl)
theorem W1U(M:YM)(vals:U):y97 M vals=
 vals.len.bind fun k1=>
 y97_1 M 0 vals ((k1:Nat):Int) 0:=yq (by kernel_rfl)
theorem Y0P(M:YM)(zero:Int)(x6:U)(x7 x8:Int):y97_1 M zero x6 x7 x8=
 (if(decide (x8<x7))=true then
 (x6.idx 1 x8).bind fun v1=>
 (v1.cell 0).bind fun c2=>
 (c2.asI .i64).bind fun n3=>
 (if(!decide (n3=zero))=true then
 some (.val (.c (.int .i64 n3)))
 else
 y97_1 M zero x6 x7 (IntKind.wrap .i64 (x8+1)))
 else
 some (.val (.c (.int .i64 zero)))):=yq (by kernel_rfl)
theorem W1V(M:YM)(x y:Int):y98 M x y=
 (y110 M x).bind fun r1=>
 r1.toU.bind fun u2=>
 u2.asB.bind fun b3=>
 (y110 M y).bind fun r4=>
 r4.toU.bind fun u5=>
 u5.asB.bind fun b6=>
 (if b3=true then
 (if b6=true then
 some (.val (.c (.int .i64 0)))
 else
 some (.val (.c (.int .i64 (-1)))))
 else
 (if b6=true then
 some (.val (.c (.int .i64 1)))
 else
 (if(decide (x<y))=true then
 some (.val (.c (.int .i64 (-1))))
 else
 (if(decide (y<x))=true then
 some (.val (.c (.int .i64 1)))
 else
 some (.val (.c (.int .i64 0))))))):=yq (by kernel_rfl)
theorem W1W(M:YM)(g_0:Int)(g_1 g_2:U)(vfrom a to:Int):y99 M g_0 g_1 g_2 vfrom a to=
 (y71 M g_0 g_1 g_2 vfrom a).bind fun r1=>
 r1.asSl.bind fun s2=>
 y99_1 M to g_0 g_1 g_2 0 s2:=yq (by kernel_rfl)
theorem Y0Q(M:YM)(to g_0:Int)(g_1 g_2:U)(i:Int)(l:Sx):y99_1 M to g_0 g_1 g_2 i l=
 (if(decide (i<(((l.es).length:Nat):Int)))=true then
 (if Sx.has l 1 i=true then
 ((l.es)[i.toNat]?).bind fun v1=>
 (v1.cell 0).bind fun c2=>
 (c2.asI .i64).bind fun n3=>
 (g_2.idx 3 n3).bind fun v4=>
 (v4.cell 1).bind fun c5=>
 (c5.asI .i64).bind fun n6=>
 (if(decide (n6=to))=true then
 some (.val (.c (.bool true)))
 else
 y99_1 M to g_0 g_1 g_2 (IntKind.wrap .i64 (i+1)) l)
 else
 none)
 else
 some (.val (.c (.bool false)))):=yq (by kernel_rfl)
theorem Z1v(M:YM)(a:Int)(x1 x2:U):y100 M a x1 x2=
 x1.one.bind fun u1=>
 x1.asR.bind fun a2=>
 (U.cell a2.1 a2.2).bind fun c3=>
 c3.asR.bind fun a4=>
 (U.cell a4.1 (a4.2+157)).bind fun c5=>
 x2.asR.bind fun a6=>
 (U.cell a6.1 a6.2).bind fun c7=>
 (c7.asI .i64).bind fun n8=>
 (c5.idx 1 n8).bind fun v9=>
 (v9.cell 0).bind fun c10=>
 (y79 M c10 (.fn 101 [] [u1, .ref (.st [.c (.int .i64 a)]) 0])).bind fun r11=>
 r11.toU.bind fun u12=>
 u12.asB.bind fun b13=>
 some (.val (.c (.bool b13))):=yq (by kernel_rfl)
theorem Z1w(M:YM)(b:Int)(x1 x2:U):y101 M b x1 x2=
 x1.asR.bind fun a1=>
 (U.cell a1.1 a1.2).bind fun c2=>
 c2.asR.bind fun a3=>
 x2.asR.bind fun a4=>
 (U.cell a4.1 a4.2).bind fun c5=>
 (c5.asI .i64).bind fun n6=>
 (if 0<=n6/\n6<((12:Nat):Int)then
 (if 0<=b/\b<((12:Nat):Int)then
 (U.cell a3.1 (((a3.2+1)+n6.toNat*12)+b.toNat*1)).bind fun c7=>
 c7.asB.bind fun b8=>
 some (.val (.c (.bool b8)))
 else
 none)
 else
 none):=yq (by kernel_rfl)
theorem Z1x(M:YM)(c:U)(s:Int):y102 M c s=
 y102_1 M c s 0 (⟨false,0,[]⟩:Sx):=yq (by kernel_rfl)
theorem K0e(M:YM)(c:U)(s x9:Int)(out:Sx):y102_1 M c s x9 out=
 (if(decide (x9<12))=true then
 c.asR.bind fun a1=>
 (U.cell a1.1 a1.2).bind fun c2=>
 c2.asR.bind fun a3=>
 (U.cell a3.1 (a3.2+4)).bind fun c4=>
 (c4.idx 12 s).bind fun v5=>
 (if 0<=x9/\x9<((12:Nat):Int)then
 (v5.cell (0+x9.toNat*1)).bind fun c6=>
 c6.len.bind fun k7=>
 y102_2 M c s x9 c6 ((k7:Nat):Int) 0 out
 else
 none)
 else
 (if scals out.es=true then
 some (.sl out)
 else
 none)):=yq (by kernel_rfl)
theorem K0f(M:YM)(c:U)(s x9:Int)(x23:U)(x24 x25:Int)(out:Sx):y102_2 M c s x9 x23 x24 x25 out=
 (if(decide (x25<x24))=true then
 (x23.idx 1 x25).bind fun v1=>
 (v1.cell 0).bind fun c2=>
 (c2.asI .i64).bind fun n3=>
 c.asR.bind fun a4=>
 (U.cell a4.1 a4.2).bind fun c5=>
 c5.asR.bind fun a6=>
 (U.cell a6.1 (a6.2+2)).bind fun c7=>
 (c7.idx 3 n3).bind fun v8=>
 (U.struct v8 0 ks2).bind fun f9=>
 (Sx.app out 3 ([.st [.c (.int .i64 ((f9 0).i)), .c (.int .i64 ((f9 1).i)), .c (.int .i64 ((f9 2).i))]])).bind fun s10=>
 y102_2 M c s x9 x23 x24 (IntKind.wrap .i64 (x25+1)) s10
 else
 y102_1 M c s (IntKind.wrap .i64 (x9+1)) out):=yq (by kernel_rfl)
theorem Z1y(M:YM)(s1 s2:U):y103 M s1 s2=
 s1.len.bind fun k1=>
 y103_1 M s1 s2 s1 ((k1:Nat):Int) 0:=yq (by kernel_rfl)
theorem K0g(M:YM)(s1 s2 x9:U)(x10 x11:Int):y103_1 M s1 s2 x9 x10 x11=
 (if(decide (x11<x10))=true then
 (x9.idx 1 x11).bind fun v1=>
 (v1.cell 0).bind fun c2=>
 (c2.asI .i64).bind fun n3=>
 s2.len.bind fun k4=>
 (if(decide (((k4:Nat):Int)<=x11))=true then
 some (.val (.c (.int .i64 1)))
 else
 (s2.idx 1 x11).bind fun v5=>
 (v5.cell 0).bind fun c6=>
 (c6.asI .i64).bind fun n7=>
 (y98 M n3 n7).bind fun r8=>
 r8.toU.bind fun u9=>
 (u9.asI .i64).bind fun n10=>
 (if(!decide (n10=0))=true then
 some (.val (.c (.int .i64 n10)))
 else
 y103_1 M s1 s2 x9 x10 (IntKind.wrap .i64 (x11+1))))
 else
 s1.len.bind fun k11=>
 s2.len.bind fun k12=>
 (if(decide (((k11:Nat):Int)<((k12:Nat):Int)))=true then
 some (.val (.c (.int .i64 (-1))))
 else
 some (.val (.c (.int .i64 0))))):=yq (by kernel_rfl)
theorem Z1z(M:YM)(x_0 x_1 x_2:Int)(x1 x2:U):y104 M x_0 x_1 x_2 x1 x2=
 x1.asR.bind fun a1=>
 (U.cell a1.1 a1.2).bind fun c2=>
 x2.asR.bind fun a3=>
 (U.cell a3.1 a3.2).bind fun c4=>
 (c4.asI .i64).bind fun n5=>
 (y86 M c2 n5 x_2).bind fun r6=>
 r6.toU.bind fun u7=>
 u7.asB.bind fun b8=>
 some (.val (.c (.bool (!b8)))):=yq (by kernel_rfl)
theorem Z1A(M:YM)(s1 s2:U):y105 M s1 s2=
 s1.len.bind fun k1=>
 s2.len.bind fun k2=>
 (if(!decide (((k1:Nat):Int)=((k2:Nat):Int)))=true then
 some (.val (.c (.bool false)))
 else
 s1.len.bind fun k3=>
 y105_1 M s1 s2 ((k3:Nat):Int) 0):=yq (by kernel_rfl)
theorem K0h(M:YM)(s1 s2:U)(x12 x13:Int):y105_1 M s1 s2 x12 x13=
 (if(decide (x13<x12))=true then
 (s1.idx 1 x13).bind fun v1=>
 (s2.idx 1 x13).bind fun v2=>
 (v1.cell 0).bind fun c3=>
 (c3.asI .i64).bind fun n4=>
 (v2.cell 0).bind fun c5=>
 (c5.asI .i64).bind fun n6=>
 (if(!decide (n4=n6))=true then
 some (.val (.c (.bool false)))
 else
 y105_1 M s1 s2 x12 (IntKind.wrap .i64 (x13+1)))
 else
 some (.val (.c (.bool true)))):=yq (by kernel_rfl)
theorem Z1B(M:YM)(p_0:U)(p_1 x_0 x_1 x_2:Int):y106 M p_0 p_1 x_0 x_1 x_2=
 (y59 M p_0).bind fun r1=>
 r1.asSl.bind fun s2=>
 (Sx.app s2 1 ([.c (.int .i64 x_2), .c (.int .i64 x_1)])).bind fun s3=>
 some (.val (.st [Sx.fz s3, .c (.int .i64 x_1)])):=yq (by kernel_rfl)
theorem Z1C(M:YM)(is:Bool):y107 M is=
 (if is=true then
 some (.val (.c (.int .i64 1)))
 else
 some (.val (.c (.int .i64 0)))):=yq (by kernel_rfl)
theorem Z1D(M:YM)(g:U)(vfrom to action:Int):y108 M g vfrom to action=
 g.asR.bind fun a1=>
 (U.cell a1.1 (a1.2+2)).bind fun c2=>
 (y111 M c2 vfrom to action (.fn 78 [] [])).bind fun r3=>
 r3.asTup.bind fun t4=>
 (t4[0]?).bind fun u5=>
 (u5.asI .i64).bind fun n6=>
 (t4[1]?).bind fun u7=>
 u7.asB.bind fun b8=>
 some (.val (.c (.bool b8))):=yq (by kernel_rfl)
theorem Z1E(M:YM)(i:Int)(x1 x2 x3:U):y109 M i x1 x2 x3=
 x2.asR.bind fun a1=>
 x3.asR.bind fun a2=>
 x1.asR.bind fun a3=>
 (U.cell a3.1 a3.2).bind fun c4=>
 x1.asR.bind fun a5=>
 (U.cell a5.1 a5.2).bind fun c6=>
 c6.asR.bind fun a7=>
 (U.cell a7.1 (a7.2+2)).bind fun c8=>
 (c8.idx 3 i).bind fun v9=>
 (v9.cell 1).bind fun c10=>
 (c10.asI .i64).bind fun n11=>
 (U.cell a1.1 (a1.2+1)).bind fun c12=>
 (c12.asI .i64).bind fun n13=>
 (U.cell a2.1 (a2.2+2)).bind fun c14=>
 (c14.asI .i64).bind fun n15=>
 (y108 M c4 n11 n13 n15).bind fun r16=>
 r16.toU.bind fun u17=>
 u17.asB.bind fun b18=>
 some (.val (.c (.bool b18))):=yq (by kernel_rfl)
theorem k1n(M:YM)(x:Int):y110 M x=
 some (.val (.c (.bool (!decide (x=x))))):=yq (by kernel_rfl)
theorem Z1F(M:YM)(x:U)(target_0 target_1 target_2:Int)(cmp:U):y111 M x target_0 target_1 target_2 cmp=
 x.len.bind fun k1=>
 y111_1 M x cmp target_0 target_1 target_2 ((k1:Nat):Int) 0 ((k1:Nat):Int):=yq (by kernel_rfl)
theorem K0i(M:YM)(x cmp:U)(target_0 target_1 target_2 n i j:Int):y111_1 M x cmp target_0 target_1 target_2 n i j=
 (if(decide (i<j))=true then
 (x.idx 3 (IntKind.wrap .i64 (shI .shr .u64 (IntKind.wrap .u64 (IntKind.wrap .i64 (i+j))) 1))).bind fun v1=>
 (U.struct v1 0 ks2).bind fun f2=>
 cmp.asF.bind fun g3=>
 (ycall M g3.1 (g3.2.1++[.st [.c (.int .i64 ((f2 0).i)), .c (.int .i64 ((f2 1).i)), .c (.int .i64 ((f2 2).i))], .st [.c (.int .i64 target_0), .c (.int .i64 target_1), .c (.int .i64 target_2)]]++g3.2.2)).bind fun r4=>
 r4.toU.bind fun u5=>
 (u5.asI .i64).bind fun n6=>
 (if(decide (n6<0))=true then
 y111_2 M x cmp target_0 target_1 target_2 n (IntKind.wrap .i64 ((IntKind.wrap .i64 (shI .shr .u64 (IntKind.wrap .u64 (IntKind.wrap .i64 (i+j))) 1))+1)) j
 else
 y111_2 M x cmp target_0 target_1 target_2 n i (IntKind.wrap .i64 (shI .shr .u64 (IntKind.wrap .u64 (IntKind.wrap .i64 (i+j))) 1)))
 else
 (if(decide (i<n))=true then
 (x.idx 3 i).bind fun v7=>
 (U.struct v7 0 ks2).bind fun f8=>
 cmp.asF.bind fun g9=>
 (ycall M g9.1 (g9.2.1++[.st [.c (.int .i64 ((f8 0).i)), .c (.int .i64 ((f8 1).i)), .c (.int .i64 ((f8 2).i))], .st [.c (.int .i64 target_0), .c (.int .i64 target_1), .c (.int .i64 target_2)]]++g9.2.2)).bind fun r10=>
 r10.toU.bind fun u11=>
 (u11.asI .i64).bind fun n12=>
 some (decide (n12=0))
 else
 some (decide (i<n))).bind fun q13=>
 some (.tup [.c (.int .i64 i), .c (.bool q13)])):=yq (by kernel_rfl)
theorem K0j(M:YM)(x cmp:U)(target_0 target_1 target_2 n i j:Int):y111_2 M x cmp target_0 target_1 target_2 n i j=
 y111_1 M x cmp target_0 target_1 target_2 n i j:=yq (by kernel_rfl)
end
end Go.Proofs.Ythjjbkiejkhjfaa.R
