/- - -/
import Derived.Test.YtglkhoamnmiolaaRa
import Derived.Test.YtglkhoamnmiolaaE9
import Derived.KernelRfl
set_option linter.all false
namespace Go.Proofs.Ytglkhoamnmiolaa.R
open Go Go.Proofs.Ytglkhoamnmiolaa.Vm
noncomputable section
abbrev ks0:List K0:=[(.int .i64),(.int .i64),(.int .i64),(.int .i64)]
abbrev ks1:List K0:=[.c, .c]
abbrev ks2:List K0:=[(.int .i64), .c, .c, .c]
structure YM where
 ext:YCallT
def mdt:List (Nat×List RM):=[(3,[.sc]),(4,[.sc]),(5,[.sc]),(6,[.sc]),(7,[.sc]),(8,[.sc]),(9,[.sc]),(10,[.va, .va]),(11,[.va]),(12,[.sc]),(13,[.sc]),(14,[.sc]),(15,[.sc]),(16,[.va]),(17,[.sc]),(18,[.sc, .sc]),(19,[.va]),(20,[.va, .va]),(21,[.sc]),(22,[.sc, .sc]),(23,[.sc, .sc]),(24,[.va]),(25,[.sc, .sc]),(26,[.va, .va, .va]),(27,[.sc, .sc]),(28,[.sc]),(29,[.va, .va]),(30,[.sc]),(31,[.sc]),(32,[.va, .va]),(33,[.va, .va]),(34,[.sc]),(35,[.va]),(36,[.sc]),(37,[.va, .va]),(38,[.sls]),(39,[.sl]),(40,[.va]),(41,[.sc]),(42,[.sc]),(43,[.sc]),(44,[.sls]),(45,[.sc]),(46,[.va]),(47,[.va, .va]),(48,[.sc]),(49,[.sc]),(50,[.sc]),(51,[.sc]),(52,[.sc]),(53,[.sc]),(54,[.sls]),(55,[.sc]),(56,[.sc]),(57,[.sc]),(58,[.sc]),(59,[.sc]),(60,[.sc]),(61,[.sc]),(62,[.va]),(63,[.sc, .sc]),(64,[.va, .va]),(65,[.sc]),(66,[.sls]),(67,[.sc]),(68,[.sc]),(69,[.sc]),(70,[.va, .va]),(71,[.sc]),(72,[.va, .va]),(73,[.va, .va, .va]),(74,[.sc]),(75,[.sc]),(76,[.sc]),(77,[.va, .va]),(78,[.va]),(79,[.sls]),(80,[.sls]),(81,[.sc]),(82,[.va]),(83,[.sls]),(84,[.sc]),(85,[.sls]),(86,[.sc]),(87,[.sc]),(88,[.sls]),(89,[.sls]),(90,[.sc]),(91,[.sc]),(92,[.sls]),(93,[.va]),(94,[]),(95,[.va]),(96,[.sls]),(97,[.sc]),(98,[.sc]),(99,[.va, .va]),(100,[.sc]),(101,[.sc]),(102,[.sc]),(103,[.sc]),(104,[.sc]),(105,[.va, .va]),(106,[.sc]),(107,[.sc]),(108,[.sc]),(109,[]),(110,[.sc, .sc]),(111,[.sls]),(112,[]),(113,[.va]),(114,[.sc, .sc]),(115,[.sc, .sc]),(116,[.sls]),(117,[.sc])]
def md(f:FuncId):List RM:=(mdt.lookup f).getD []
def youts:List Nat:=[8,16,33,37,40,46,64,72,73,82,93,94,95,99,109,112]
def yprog(f:FuncId):Option RFunc:=if youts.contains f then none else prog f
def yz(n:Nat)(l:List (Nat×Y)):List Y:=(List.range n).map fun p=>(l.lookup p).getD .poison
def yrunM(M:YM):YRunT:=Vm.yrun M.ext yprog md
def ycall(M:YM)(f:FuncId)(us:List U):YRs:=yrunM M f 0 (us.map .val) []
theorem yq{M:YM}{f:FuncId}{l:Nat}{ys:List Y}{obs:List Ob}{r:YRs}(h:Vm.ystepR M.ext yprog md (Vm.yrun M.ext yprog md) f l ys obs=r):yrunM M f l ys obs=r:=by unfold yrunM;rw[w0W];exact h
def y6(M:YM)(a_0:Int)(a_1 a_2 a_3:U):YRs:=yrunM M 6 0 ([.val (.st [.c (.int .i64 a_0),a_1,a_2,a_3])]) []
def y9(M:YM)(a_0:Int)(a_1 a_2 a_3:U):YRs:=yrunM M 9 0 ([.val (.st [.c (.int .i64 a_0),a_1,a_2,a_3])]) []
def y9_1(M:YM)(a_0:Int)(a_1 a_2 a_3:U)(k:Int):YRs:=yrunM M 9 1 (yz 44 [(1, .loc [.u (.c (.int .i64 a_0)), .u a_1, .u a_2, .u a_3]),(3, .val (.c (.int .i64 k)))]) []
def y11(M:YM)(a_0:Int)(a_1 a_2 a_3:U):YRs:=yrunM M 11 0 ([.val (.st [.c (.int .i64 a_0),a_1,a_2,a_3])]) []
def y25(M:YM)(a_0:Int)(a_1 a_2 a_3:U):YRs:=yrunM M 25 0 ([.val (.st [.c (.int .i64 a_0),a_1,a_2,a_3])]) []
def y25_1(M:YM)(a_0:Int)(a_1 a_2 a_3 x49:U)(x50 x51:Int):YRs:=yrunM M 25 1 (yz 106 [(1, .loc [.u (.c (.int .i64 a_0)), .u a_1, .u a_2, .u a_3]),(49, .val x49),(50, .val (.c (.int .i64 x50))),(51, .val (.c (.int .i64 x51)))]) []
def y25_2(M:YM)(a_0:Int)(a_1 a_2 a_3 x87:U)(x88 x89:Int):YRs:=yrunM M 25 2 (yz 106 [(1, .loc [.u (.c (.int .i64 a_0)), .u a_1, .u a_2, .u a_3]),(87, .val x87),(88, .val (.c (.int .i64 x88))),(89, .val (.c (.int .i64 x89)))]) []
def y26(M:YM)(a_0:Int)(a_1 a_2 a_3:U):YRs:=yrunM M 26 0 ([.val (.st [.c (.int .i64 a_0),a_1,a_2,a_3])]) []
def y27(M:YM)(a_0:Int)(a_1 a_2 a_3:U):YRs:=yrunM M 27 0 ([.val (.st [.c (.int .i64 a_0),a_1,a_2,a_3])]) []
def y27_1(M:YM)(a_0:Int)(a_1 a_2 a_3:U)(i:Int):YRs:=yrunM M 27 1 (yz 111 [(1, .loc [.u (.c (.int .i64 a_0)), .u a_1, .u a_2, .u a_3]),(4, .val (.c (.int .i64 i)))]) []
def y27_2(M:YM)(a_0:Int)(a_1 a_2 a_3:U)(i:Int):YRs:=yrunM M 27 2 (yz 111 [(1, .loc [.u (.c (.int .i64 a_0)), .u a_1, .u a_2, .u a_3]),(6, .val (.c (.int .i64 i)))]) []
def y27_3(M:YM)(a_0:Int)(a_1 a_2 a_3:U)(i:Int):YRs:=yrunM M 27 3 (yz 111 [(1, .loc [.u (.c (.int .i64 a_0)), .u a_1, .u a_2, .u a_3]),(8, .val (.c (.int .i64 i)))]) []
def y27_4(M:YM)(a_0:Int)(a_1 a_2 a_3:U)(i k:Int):YRs:=yrunM M 27 4 (yz 111 [(1, .loc [.u (.c (.int .i64 a_0)), .u a_1, .u a_2, .u a_3]),(8, .val (.c (.int .i64 i))),(9, .val (.c (.int .i64 k)))]) []
def y28(M:YM)(a_0:Int)(a_1 a_2 a_3:U):YRs:=yrunM M 28 0 ([.val (.st [.c (.int .i64 a_0),a_1,a_2,a_3])]) []
def y29(M:YM)(a_0:Int)(a_1 a_2 a_3:U):YRs:=yrunM M 29 0 ([.val (.st [.c (.int .i64 a_0),a_1,a_2,a_3])]) []
def y29_1(M:YM)(a_0:Int)(a_1 a_2 a_3:U)(x2_0:Int)(is:U)(i:Int)(x2_1 x2_2 x2_3 number old:Sx):YRs:=yrunM M 29 1 (yz 108 [(1, .loc [.u (.c (.int .i64 a_0)), .u a_1, .u a_2, .u a_3]),(2, .loc [.u (.c (.int .i64 x2_0)), .h 10000, .h 10001, .h 10002]),(4, .val is),(5, .h 10003),(6, .h 10004),(7, .val (.c (.int .i64 i)))]) [.sl x2_1, .sl x2_2, .sl x2_3, .sl number, .sl old]
def y29_2(M:YM)(a_0:Int)(a_1 a_2 a_3:U)(x2_0:Int)(is:U)(i:Int)(x2_1 x2_2 x2_3 number old:Sx):YRs:=yrunM M 29 2 (yz 108 [(1, .loc [.u (.c (.int .i64 a_0)), .u a_1, .u a_2, .u a_3]),(2, .loc [.u (.c (.int .i64 x2_0)), .h 10000, .h 10001, .h 10002]),(4, .val is),(5, .h 10003),(6, .h 10004),(7, .val (.c (.int .i64 i)))]) [.sl x2_1, .sl x2_2, .sl x2_3, .sl number, .sl old]
def y29_3(M:YM)(a_0:Int)(a_1 a_2 a_3:U)(x2_0:Int)(is:U)(out_0 i:Int)(x2_1 x2_2 x2_3 number old out_1 out_2 out_3:Sx):YRs:=yrunM M 29 3 (yz 108 [(1, .loc [.u (.c (.int .i64 a_0)), .u a_1, .u a_2, .u a_3]),(2, .loc [.u (.c (.int .i64 x2_0)), .h 10000, .h 10001, .h 10002]),(4, .val is),(5, .h 10003),(6, .h 10004),(8, .loc [.u (.c (.int .i64 out_0)), .h 10005, .h 10006, .h 10007]),(9, .val (.c (.int .i64 i)))]) [.sl x2_1, .sl x2_2, .sl x2_3, .sl number, .sl old, .sl out_1, .sl out_2, .sl out_3]
def y29_4(M:YM)(a_0:Int)(a_1 a_2 a_3:U)(x2_0:Int)(is:U)(out_0 i:Int)(x2_1 x2_2 x2_3 number old out_1 out_2 out_3:Sx):YRs:=yrunM M 29 4 (yz 108 [(1, .loc [.u (.c (.int .i64 a_0)), .u a_1, .u a_2, .u a_3]),(2, .loc [.u (.c (.int .i64 x2_0)), .h 10000, .h 10001, .h 10002]),(4, .val is),(5, .h 10003),(6, .h 10004),(8, .loc [.u (.c (.int .i64 out_0)), .h 10005, .h 10006, .h 10007]),(9, .val (.c (.int .i64 i)))]) [.sl x2_1, .sl x2_2, .sl x2_3, .sl number, .sl old, .sl out_1, .sl out_2, .sl out_3]
def y29_5(M:YM)(a_0:Int)(a_1 a_2 a_3:U)(x2_0:Int)(is:U)(out_0 k:Int)(x2_1 x2_2 x2_3 number old out_1 out_2 out_3:Sx):YRs:=yrunM M 29 5 (yz 108 [(1, .loc [.u (.c (.int .i64 a_0)), .u a_1, .u a_2, .u a_3]),(2, .loc [.u (.c (.int .i64 x2_0)), .h 10000, .h 10001, .h 10002]),(4, .val is),(5, .h 10003),(6, .h 10004),(8, .loc [.u (.c (.int .i64 out_0)), .h 10005, .h 10006, .h 10007]),(11, .val (.c (.int .i64 k)))]) [.sl x2_1, .sl x2_2, .sl x2_3, .sl number, .sl old, .sl out_1, .sl out_2, .sl out_3]
def y30(M:YM)(a_0:Int)(a_1 a_2 a_3:U)(b_0:Int)(b_1 b_2 b_3:U):YRs:=yrunM M 30 0 ([.val (.st [.c (.int .i64 a_0),a_1,a_2,a_3]), .val (.st [.c (.int .i64 b_0),b_1,b_2,b_3])]) []
def y30_1(M:YM)(a_0:Int)(a_1 a_2 a_3:U)(b_0:Int)(b_1 b_2 b_3:U)(i:Int):YRs:=yrunM M 30 1 (yz 54 [(2, .loc [.u (.c (.int .i64 a_0)), .u a_1, .u a_2, .u a_3]),(3, .loc [.u (.c (.int .i64 b_0)), .u b_1, .u b_2, .u b_3]),(5, .val (.c (.int .i64 i)))]) []
def y31(M:YM)(a b:U):YRs:=yrunM M 31 0 ([.val a, .val b]) []
def y31_1(M:YM)(a b:U)(i:Int):YRs:=yrunM M 31 1 (yz 26 [(0, .val a),(1, .val b),(5, .val (.c (.int .i64 i)))]) []
def y36(M:YM)(a_0:Int)(a_1 a_2 a_3:U):YRs:=yrunM M 36 0 ([.val (.st [.c (.int .i64 a_0),a_1,a_2,a_3])]) []
def y38(M:YM)(l:U):YRs:=yrunM M 38 0 ([.val l]) []
def y39(M:YM)(l:U):YRs:=yrunM M 39 0 ([.val l]) []
def y39_1(M:YM)(l:U)(i:Int)(out:Sx):YRs:=yrunM M 39 1 (yz 20 [(0, .val l),(3, .h 10000),(4, .val (.c (.int .i64 i)))]) [.sl out]
def y41(M:YM)(n low high:Int):YRs:=yrunM M 41 0 ([.val (.c (.int .i64 n)), .val (.c (.int .i64 low)), .val (.c (.int .i64 high))]) []
def y43(M:YM)(x_0 x_1 x_2 x_3 letter:Int):YRs:=yrunM M 43 0 ([.val (.st [.c (.int .i64 x_0), .c (.int .i64 x_1), .c (.int .i64 x_2), .c (.int .i64 x_3)]), .val (.c (.int .i64 letter))]) []
def y43_1(M:YM)(letter x_0 x_1 x_2 x_3 i:Int):YRs:=yrunM M 43 1 (yz 31 [(1, .val (.c (.int .i64 letter))),(2, .loc [.u (.c (.int .i64 x_0)), .u (.c (.int .i64 x_1)), .u (.c (.int .i64 x_2)), .u (.c (.int .i64 x_3))]),(5, .val (.c (.int .i64 i)))]) []
def y44(M:YM)(next sets:U):YRs:=yrunM M 44 0 ([.val next, .val sets]) []
def y44_1(M:YM)(next sets:U)(i:Int)(vin:Sx):YRs:=yrunM M 44 1 (yz 70 [(0, .val next),(1, .val sets),(5, .h 10000),(6, .val (.c (.int .i64 i)))]) [.sl vin]
def y44_2(M:YM)(before:U)(vin all:Sx):YRs:=yrunM M 44 2 (yz 70 [(5, .h 10000),(7, .val before),(8, .h 10001)]) [.sl vin, .sl all]
def y44_2b(M:YM)(before all:U)(vin:Sx):YRs:=yrunM M 44 2 (yz 70 [(5, .h 10000),(7, .val before),(8, .val all)]) [.sl vin]
def y44_3(M:YM)(before:U)(changed:Bool)(vin all:Sx):YRs:=yrunM M 44 3 (yz 70 [(5, .h 10000),(7, .val before),(8, .h 10001),(9, .val (.c (.bool changed)))]) [.sl vin, .sl all]
def y44_3b(M:YM)(before all:U)(changed:Bool)(vin:Sx):YRs:=yrunM M 44 3 (yz 70 [(5, .h 10000),(7, .val before),(8, .val all),(9, .val (.c (.bool changed)))]) [.sl vin]
def y44_4(M:YM)(before:U)(changed:Bool)(k:Int)(vin all:Sx):YRs:=yrunM M 44 4 (yz 70 [(5, .h 10000),(7, .val before),(8, .h 10001),(9, .val (.c (.bool changed))),(10, .val (.c (.int .i64 k)))]) [.sl vin, .sl all]
def y44_4b(M:YM)(before all:U)(changed:Bool)(k:Int)(vin:Sx):YRs:=yrunM M 44 4 (yz 70 [(5, .h 10000),(7, .val before),(8, .val all),(9, .val (.c (.bool changed))),(10, .val (.c (.int .i64 k)))]) [.sl vin]
def y44_5(M:YM)(before:U)(changed:Bool)(k i:Int)(vin all now:Sx):YRs:=yrunM M 44 5 (yz 70 [(5, .h 10000),(7, .val before),(8, .h 10001),(9, .val (.c (.bool changed))),(10, .val (.c (.int .i64 k))),(11, .h 10002),(12, .val (.c (.int .i64 i)))]) [.sl vin, .sl all, .sl now]
def y44_5b(M:YM)(before all:U)(changed:Bool)(k i:Int)(vin now:Sx):YRs:=yrunM M 44 5 (yz 70 [(5, .h 10000),(7, .val before),(8, .val all),(9, .val (.c (.bool changed))),(10, .val (.c (.int .i64 k))),(11, .h 10001),(12, .val (.c (.int .i64 i)))]) [.sl vin, .sl now]
def y44_6(M:YM)(before:U)(changed:Bool)(k i:Int)(vin all now:Sx):YRs:=yrunM M 44 6 (yz 70 [(5, .h 10000),(7, .val before),(8, .h 10001),(9, .val (.c (.bool changed))),(10, .val (.c (.int .i64 k))),(11, .h 10002),(12, .val (.c (.int .i64 i)))]) [.sl vin, .sl all, .sl now]
def y44_6b(M:YM)(before all:U)(changed:Bool)(k i:Int)(vin now:Sx):YRs:=yrunM M 44 6 (yz 70 [(5, .h 10000),(7, .val before),(8, .val all),(9, .val (.c (.bool changed))),(10, .val (.c (.int .i64 k))),(11, .h 10001),(12, .val (.c (.int .i64 i)))]) [.sl vin, .sl now]
def y52(M:YM)(vals:U):YRs:=yrunM M 52 0 ([.val vals]) []
def y52_1(M:YM)(zero:Int)(x6:U)(x7 x8:Int):YRs:=yrunM M 52 1 (yz 18 [(3, .val (.c (.int .i64 zero))),(6, .val x6),(7, .val (.c (.int .i64 x7))),(8, .val (.c (.int .i64 x8)))]) []
def y53(M:YM)(is:Bool)(code:Int):YRs:=yrunM M 53 0 ([.val (.c (.bool is)), .val (.c (.int .i64 code))]) []
def y55(M:YM)(n vfrom to:Int):YRs:=yrunM M 55 0 ([.val (.c (.int .i64 n)), .val (.c (.int .i64 vfrom)), .val (.c (.int .i64 to))]) []
def y56(M:YM)(s:U)(v:Int):YRs:=yrunM M 56 0 ([.val s, .val (.c (.int .i64 v))]) []
def y63(M:YM)(l:U)(states:Int):YRs:=yrunM M 63 0 ([.val l, .val (.c (.int .i64 states))]) []
def y63_1(M:YM)(l:U)(states:Int)(x9:U)(x10 x11:Int):YRs:=yrunM M 63 1 (yz 42 [(0, .val l),(1, .val (.c (.int .i64 states))),(9, .val x9),(10, .val (.c (.int .i64 x10))),(11, .val (.c (.int .i64 x11)))]) []
def y65(M:YM)(a_0:Int)(a_1 a_2 a_3 l:U)(i:Int):YRs:=yrunM M 65 0 ([.val (.st [.c (.int .i64 a_0),a_1,a_2,a_3]), .val l, .val (.c (.int .i64 i))]) []
def y66(M:YM)(l is number:U):YRs:=yrunM M 66 0 ([.val l, .val is, .val number]) []
def y66_1(M:YM)(l is number:U)(i:Int)(out:Sx):YRs:=yrunM M 66 1 (yz 33 [(0, .val l),(1, .val is),(2, .val number),(7, .h 10000),(8, .val (.c (.int .i64 i)))]) [.sl out]
def y66_2(M:YM)(l is number:U)(i:Int)(out:Sx):YRs:=yrunM M 66 2 (yz 33 [(0, .val l),(1, .val is),(2, .val number),(7, .h 10000),(8, .val (.c (.int .i64 i)))]) [.sl out]
def y67(M:YM)(a b:U):YRs:=yrunM M 67 0 ([.val a, .val b]) []
def y67_1(M:YM)(a b:U)(i:Int):YRs:=yrunM M 67 1 (yz 27 [(0, .val a),(1, .val b),(5, .val (.c (.int .i64 i)))]) []
def y69(M:YM)(x_0 x_1 x_2 x_3:Int):YRs:=yrunM M 69 0 ([.val (.st [.c (.int .i64 x_0), .c (.int .i64 x_1), .c (.int .i64 x_2), .c (.int .i64 x_3)])]) []
def y78(M:YM)(x_0 x_1 x_2 x_3:Int):YRs:=yrunM M 78 0 ([.val (.st [.c (.int .i64 x_0), .c (.int .i64 x_1), .c (.int .i64 x_2), .c (.int .i64 x_3)])]) []
def y79(M:YM)(n:Int)(l:U):YRs:=yrunM M 79 0 ([.val (.c (.int .i64 n)), .val l]) []
def y79_1(M:YM)(l:U)(i:Int)(out:Sx):YRs:=yrunM M 79 1 (yz 22 [(1, .val l),(5, .h 10000),(6, .val (.c (.int .i64 i)))]) [.sl out]
def y80(M:YM)(next vfrom:U):YRs:=yrunM M 80 0 ([.val next, .val vfrom]) []
def y80_1(M:YM)(next vfrom:U)(i:Int)(out vopen:Sx):YRs:=yrunM M 80 1 (yz 71 [(0, .val next),(1, .val vfrom),(5, .h 10000),(6, .h 10001),(7, .val (.c (.int .i64 i)))]) [.sl out, .sl vopen]
def y80_2(M:YM)(next:U)(out vopen:Sx):YRs:=yrunM M 80 2 (yz 71 [(0, .val next),(5, .h 10000),(6, .h 10001)]) [.sl out, .sl vopen]
def y80_3(M:YM)(next:U)(x k:Int)(out vopen:Sx):YRs:=yrunM M 80 3 (yz 71 [(0, .val next),(5, .h 10000),(6, .h 10001),(8, .val (.c (.int .i64 x))),(9, .val (.c (.int .i64 k)))]) [.sl out, .sl vopen]
def y80_4(M:YM)(next:U)(x k:Int)(out vopen:Sx):YRs:=yrunM M 80 4 (yz 71 [(0, .val next),(5, .h 10000),(6, .h 10001),(8, .val (.c (.int .i64 x))),(9, .val (.c (.int .i64 k)))]) [.sl out, .sl vopen]
def y81(M:YM)(letter atom:Int):YRs:=yrunM M 81 0 ([.val (.c (.int .i64 letter)), .val (.c (.int .i64 atom))]) []
def y83(M:YM)(before vin vset:U):YRs:=yrunM M 83 0 ([.val before, .val vin, .val vset]) []
def y83_1(M:YM)(before vin vset:U)(i:Int)(out vopen:Sx):YRs:=yrunM M 83 1 (yz 85 [(0, .val before),(1, .val vin),(2, .val vset),(7, .h 10000),(8, .h 10001),(9, .val (.c (.int .i64 i)))]) [.sl out, .sl vopen]
def y83_2(M:YM)(before vin vset:U)(i:Int)(out vopen:Sx):YRs:=yrunM M 83 2 (yz 85 [(0, .val before),(1, .val vin),(2, .val vset),(7, .h 10000),(8, .h 10001),(9, .val (.c (.int .i64 i)))]) [.sl out, .sl vopen]
def y83_3(M:YM)(before vin:U)(out vopen:Sx):YRs:=yrunM M 83 3 (yz 85 [(0, .val before),(1, .val vin),(7, .h 10000),(8, .h 10001)]) [.sl out, .sl vopen]
def y83_4(M:YM)(before vin:U)(x k:Int)(out vopen:Sx):YRs:=yrunM M 83 4 (yz 85 [(0, .val before),(1, .val vin),(7, .h 10000),(8, .h 10001),(10, .val (.c (.int .i64 x))),(11, .val (.c (.int .i64 k)))]) [.sl out, .sl vopen]
def y83_5(M:YM)(before vin:U)(x k:Int)(out vopen:Sx):YRs:=yrunM M 83 5 (yz 85 [(0, .val before),(1, .val vin),(7, .h 10000),(8, .h 10001),(10, .val (.c (.int .i64 x))),(11, .val (.c (.int .i64 k)))]) [.sl out, .sl vopen]
def y85(M:YM)(l:U)(nodes:Int)(stateOf:U):YRs:=yrunM M 85 0 ([.val l, .val (.c (.int .i64 nodes)), .val stateOf]) []
def y85_1(M:YM)(l stateOf:U)(x12 x13:Int)(out:Sx):YRs:=yrunM M 85 1 (yz 26 [(0, .val l),(2, .val stateOf),(7, .h 10000),(12, .val (.c (.int .i64 x12))),(13, .val (.c (.int .i64 x13)))]) [.sl out]
def y90(M:YM)(s:U)(v:Int):YRs:=yrunM M 90 0 ([.val s, .val (.c (.int .i64 v))]) []
def y90_1(M:YM)(s:U)(v x7 x8:Int):YRs:=yrunM M 90 1 (yz 19 [(0, .val s),(1, .val (.c (.int .i64 v))),(7, .val (.c (.int .i64 x7))),(8, .val (.c (.int .i64 x8)))]) []
def y92(M:YM)(g of sets:U):YRs:=yrunM M 92 0 ([.val g, .val of, .val sets]) []
def y92_1(M:YM)(g of sets:U)(n:Int)(x22:U)(x23 x24:Int):YRs:=yrunM M 92 1 (yz 147 [(0, .val g),(1, .val of),(2, .val sets),(7, .val (.c (.int .i64 n))),(22, .val x22),(23, .val (.c (.int .i64 x23))),(24, .val (.c (.int .i64 x24)))]) []
def y92_2(M:YM)(g of sets:U)(n:Int)(x35:U)(x36 x37:Int)(inner:Sx):YRs:=yrunM M 92 2 (yz 147 [(0, .val g),(1, .val of),(2, .val sets),(7, .val (.c (.int .i64 n))),(10, .h 10000),(35, .val x35),(36, .val (.c (.int .i64 x36))),(37, .val (.c (.int .i64 x37)))]) [.sl inner]
def y92_3(M:YM)(g of sets:U)(n v:Int)(x35:U)(x36 x37:Int)(x42:U)(x43 x44:Int)(inner:Sx):YRs:=yrunM M 92 3 (yz 147 [(0, .val g),(1, .val of),(2, .val sets),(7, .val (.c (.int .i64 n))),(10, .h 10000),(11, .val (.c (.int .i64 v))),(35, .val x35),(36, .val (.c (.int .i64 x36))),(37, .val (.c (.int .i64 x37))),(42, .val x42),(43, .val (.c (.int .i64 x43))),(44, .val (.c (.int .i64 x44)))]) [.sl inner]
def y92_4(M:YM)(g of:U)(n:Int)(x74:U)(x75 x76:Int)(inner:Sx):YRs:=yrunM M 92 4 (yz 147 [(0, .val g),(1, .val of),(7, .val (.c (.int .i64 n))),(10, .h 10000),(74, .val x74),(75, .val (.c (.int .i64 x75))),(76, .val (.c (.int .i64 x76)))]) [.sl inner]
def y92_5(M:YM)(g of:U)(n:Int)(s x74:U)(x75 x76 x83 x84:Int)(inner has:Sx):YRs:=yrunM M 92 5 (yz 147 [(0, .val g),(1, .val of),(7, .val (.c (.int .i64 n))),(10, .h 10000),(16, .val s),(17, .h 10001),(74, .val x74),(75, .val (.c (.int .i64 x75))),(76, .val (.c (.int .i64 x76))),(83, .val (.c (.int .i64 x83))),(84, .val (.c (.int .i64 x84)))]) [.sl inner, .sl has]
def y92_7(M:YM)(of:U)(x131 x132:Int)(inner out:Sx):YRs:=yrunM M 92 7 (yz 147 [(1, .val of),(10, .h 10000),(20, .h 10001),(131, .val (.c (.int .i64 x131))),(132, .val (.c (.int .i64 x132)))]) [.sl inner, .sl out]
def y92_6(M:YM)(g of:U)(n:Int)(x74:U)(x75 x76 x108 x109:Int)(inner has:Sx):YRs:=yrunM M 92 6 (yz 147 [(0, .val g),(1, .val of),(7, .val (.c (.int .i64 n))),(10, .h 10000),(17, .h 10001),(74, .val x74),(75, .val (.c (.int .i64 x75))),(76, .val (.c (.int .i64 x76))),(108, .val (.c (.int .i64 x108))),(109, .val (.c (.int .i64 x109)))]) [.sl inner, .sl has]
def y96(M:YM)(l x1:U):YRs:=yrunM M 96 0 ([.val l, .val x1]) []
def y96_1(M:YM)(x1 x7:U)(x8 x9:Int)(out:Sx):YRs:=yrunM M 96 1 (yz 27 [(1, .val x1),(4, .h 10000),(7, .val x7),(8, .val (.c (.int .i64 x8))),(9, .val (.c (.int .i64 x9)))]) [.sl out]
def y96_2(M:YM)(x1 x7:U)(x8 x9:Int)(out:Sx):YRs:=yrunM M 96 2 (yz 27 [(1, .val x1),(4, .h 10000),(7, .val x7),(8, .val (.c (.int .i64 x8))),(9, .val (.c (.int .i64 x9)))]) [.sl out]
def y97(M:YM)(v:Int):YRs:=yrunM M 97 0 ([.val (.c (.int .i64 v))]) []
def y110(M:YM)(x y:Int):YRs:=yrunM M 110 0 ([.val (.c (.int .u64 x)), .val (.c (.int .u64 y))]) []
def y115(M:YM)(x y:Int):YRs:=yrunM M 115 0 ([.val (.c (.int .u64 x)), .val (.c (.int .u64 y))]) []
def y8(M:YM):YRs:=yrunM M 8 0 [] []
def y40(M:YM)(a_0:Int)(a_1 a_2 a_3:U):YRs:=yrunM M 40 0 [.val (.st [.c (.int .i64 a_0),a_1,a_2,a_3])] []
def y64(M:YM)(a_0:Int)(a_1 a_2 a_3:U):YRs:=yrunM M 64 0 [.val (.st [.c (.int .i64 a_0),a_1,a_2,a_3])] []
def y82(M:YM)(next:U):YRs:=yrunM M 82 0 [.val next] []
theorem Z1k(M:YM)(a_0:Int)(a_1 a_2 a_3:U):y6 M a_0 a_1 a_2 a_3=
 (y8 M).bind fun r1=>
 r1.toU.bind fun u2=>
 u2.asB.bind fun b3=>
 (if(!b3)=true then
 some (.val (.c (.bool false)))
 else
 (y9 M a_0 a_1 a_2 a_3).bind fun r4=>
 r4.toU.bind fun u5=>
 u5.asB.bind fun b6=>
 (if(!b6)=true then
 some (.val (.c (.bool true)))
 else
 (y11 M a_0 a_1 a_2 a_3).bind fun r7=>
 r7.toU.bind fun u8=>
 (u8.exact ks2).bind fun f9=>
 (y25 M ((f9 0).i) (f9 1) (f9 2) (f9 3)).bind fun r10=>
 r10.asTup.bind fun t11=>
 (t11[0]?).bind fun u12=>
 (u12.asI .i64).bind fun n13=>
 (t11[1]?).bind fun u14=>
 (u14.asI .i64).bind fun n15=>
 (y11 M a_0 a_1 a_2 a_3).bind fun r16=>
 r16.toU.bind fun u17=>
 (u17.exact ks2).bind fun f18=>
 (y26 M ((f18 0).i) (f18 1) (f18 2) (f18 3)).bind fun r19=>
 r19.asTup.bind fun t20=>
 (t20[0]?).bind fun u21=>
 (u21.exact ks2).bind fun f22=>
 (t20[1]?).bind fun u23=>
 u23.one.bind fun u24=>
 (t20[2]?).bind fun u25=>
 (u25.asI .i64).bind fun n26=>
 (y27 M a_0 a_1 a_2 a_3).bind fun r27=>
 r27.asTup.bind fun t28=>
 (t28[0]?).bind fun u29=>
 (u29.asI .i64).bind fun n30=>
 (t28[1]?).bind fun u31=>
 (u31.asI .i64).bind fun n32=>
 (if(!decide (n15=n32))=false then
 some (!decide (n13=n30))
 else
 some (!decide (n15=n32))).bind fun q33=>
 (if q33=true then
 some (.val (.c (.bool false)))
 else
 (if(!decide (n32=0))=true then
 (if(decide (n26=n32))=true then
 (y28 M ((f22 0).i) (f22 1) (f22 2) (f22 3)).bind fun r34=>
 r34.toU.bind fun u35=>
 u35.asB.bind fun b36=>
 some b36
 else
 some (decide (n26=n32))).bind fun q37=>
 (if q37=true then
 u24.len.bind fun k38=>
 some (decide (((k38:Nat):Int)=0))
 else
 some q37).bind fun q39=>
 some (.val (.c (.bool q39)))
 else
 (y29 M a_0 a_1 a_2 a_3).bind fun r40=>
 r40.asTup.bind fun t41=>
 (t41[0]?).bind fun u42=>
 (u42.exact ks2).bind fun f43=>
 (t41[1]?).bind fun u44=>
 u44.one.bind fun u45=>
 (if(decide (n26=0))=true then
 (y30 M ((f22 0).i) (f22 1) (f22 2) (f22 3) ((f43 0).i) (f43 1) (f43 2) (f43 3)).bind fun r46=>
 r46.toU.bind fun u47=>
 u47.asB.bind fun b48=>
 some b48
 else
 some (decide (n26=0))).bind fun q49=>
 (if q49=true then
 (y31 M u24 u45).bind fun r50=>
 r50.toU.bind fun u51=>
 u51.asB.bind fun b52=>
 some b52
 else
 some q49).bind fun q53=>
 some (.val (.c (.bool q53))))))):=yq (by kernel_rfl)
theorem Z1l(M:YM)(a_0:Int)(a_1 a_2 a_3:U):y9 M a_0 a_1 a_2 a_3=
 (if(decide (30<a_0))=true then
 some (decide (a_0<=300))
 else
 some (decide (30<a_0))).bind fun q1=>
 (if q1=false then
 a_2.len.bind fun k2=>
 some (decide (60<((k2:Nat):Int)))
 else
 some q1).bind fun q3=>
 (if q3=false then
 a_1.len.bind fun k4=>
 some (decide (40<((k4:Nat):Int)))
 else
 some q3).bind fun q5=>
 (if q5=false then
 a_3.len.bind fun k6=>
 some (decide (12<((k6:Nat):Int)))
 else
 some q5).bind fun q7=>
 (if q7=true then
 some (.val (.c (.bool false)))
 else
 y9_1 M a_0 a_1 a_2 a_3 0):=yq (by kernel_rfl)
theorem Y0p(M:YM)(a_0:Int)(a_1 a_2 a_3:U)(k:Int):y9_1 M a_0 a_1 a_2 a_3 k=
 a_3.len.bind fun k1=>
 (if(decide (k<((k1:Nat):Int)))=true then
 (a_3.idx 1 k).bind fun v2=>
 (v2.cell 0).bind fun c3=>
 c3.len.bind fun k4=>
 (if(decide (40<((k4:Nat):Int)))=true then
 some (.val (.c (.bool false)))
 else
 y9_1 M a_0 a_1 a_2 a_3 (IntKind.wrap .i64 (k+1)))
 else
 some (.val (.c (.bool true)))):=yq (by kernel_rfl)
theorem Q1w(M:YM)(a_0:Int)(a_1 a_2 a_3:U):y11 M a_0 a_1 a_2 a_3=
 (y38 M a_1).bind fun r1=>
 r1.asSl.bind fun s2=>
 (U.asL a_2).bind fun l3=>
 (Sx.app (⟨true,4,[]⟩:Sx) 4 l3.2).bind fun s4=>
 (y39 M a_3).bind fun r5=>
 r5.asSl.bind fun s6=>
 some (.val (.st [.c (.int .i64 a_0),Sx.fz s2,Sx.fz s4,Sx.fz s6])):=yq (by kernel_rfl)
theorem k1N(M:YM)(a_0:Int)(a_1 a_2 a_3:U):y25 M a_0 a_1 a_2 a_3=
 a_2.len.bind fun k1=>
 (if(decide (6000<((k1:Nat):Int)))=false then
 a_3.len.bind fun k2=>
 some (decide (8<((k2:Nat):Int)))
 else
 some (decide (6000<((k1:Nat):Int)))).bind fun q3=>
 (y55 M a_0 0 300).bind fun r4=>
 r4.toU.bind fun u5=>
 u5.asB.bind fun b6=>
 (y53 M (!b6) 3).bind fun r7=>
 r7.toU.bind fun u8=>
 (u8.asI .i64).bind fun n9=>
 (y53 M q3 2).bind fun r10=>
 r10.toU.bind fun u11=>
 (u11.asI .i64).bind fun n12=>
 (y52 M (Sx.fz (⟨true,1,[.c (.int .i64 n9), .c (.int .i64 n12)]⟩:Sx))).bind fun r13=>
 r13.toU.bind fun u14=>
 (u14.asI .i64).bind fun n15=>
 (if(!decide (n15=0))=true then
 some (.tup [.c (.int .i64 0), .c (.int .i64 n15)])
 else
 (y63 M a_1 a_0).bind fun r16=>
 r16.asTup.bind fun t17=>
 (t17[0]?).bind fun u18=>
 (u18.asI .i64).bind fun n19=>
 (t17[1]?).bind fun u20=>
 (u20.asI .i64).bind fun n21=>
 (if(!decide (n21=0))=true then
 some (.tup [.c (.int .i64 n19), .c (.int .i64 n21)])
 else
 a_2.len.bind fun k22=>
 y25_1 M a_0 a_1 a_2 a_3 a_2 ((k22:Nat):Int) 0)):=yq (by kernel_rfl)
theorem w0c(M:YM)(a_0:Int)(a_1 a_2 a_3 x49:U)(x50 x51:Int):y25_1 M a_0 a_1 a_2 a_3 x49 x50 x51=
 (if(decide (x51<x50))=true then
 (x49.idx 4 x51).bind fun v1=>
 (U.struct v1 0 ks0).bind fun f2=>
 (y55 M ((f2 0).i) 0 (IntKind.wrap .i64 (a_0 - 1))).bind fun r3=>
 r3.toU.bind fun u4=>
 u4.asB.bind fun b5=>
 (if(!b5)=false then
 (y55 M ((f2 1).i) 0 (IntKind.wrap .i64 (a_0 - 1))).bind fun r6=>
 r6.toU.bind fun u7=>
 u7.asB.bind fun b8=>
 some (!b8)
 else
 some (!b5)).bind fun q9=>
 (if q9=false then
 (y55 M ((f2 2).i) 0 4095).bind fun r10=>
 r10.toU.bind fun u11=>
 u11.asB.bind fun b12=>
 some (!b12)
 else
 some q9).bind fun q13=>
 (if q13=false then
 (y55 M ((f2 3).i) 0 4095).bind fun r14=>
 r14.toU.bind fun u15=>
 u15.asB.bind fun b16=>
 some (!b16)
 else
 some q13).bind fun q17=>
 (if q17=true then
 some (.tup [.c (.int .i64 x51), .c (.int .i64 3)])
 else
 y25_1 M a_0 a_1 a_2 a_3 x49 x50 (IntKind.wrap .i64 (x51+1)))
 else
 a_3.len.bind fun k18=>
 y25_2 M a_0 a_1 a_2 a_3 a_3 ((k18:Nat):Int) 0):=yq (by kernel_rfl)
theorem w0d(M:YM)(a_0:Int)(a_1 a_2 a_3 x87:U)(x88 x89:Int):y25_2 M a_0 a_1 a_2 a_3 x87 x88 x89=
 (if(decide (x89<x88))=true then
 (x87.idx 1 x89).bind fun v1=>
 (v1.cell 0).bind fun c2=>
 (y63 M c2 a_0).bind fun r3=>
 r3.asTup.bind fun t4=>
 (t4[0]?).bind fun u5=>
 (u5.asI .i64).bind fun n6=>
 (t4[1]?).bind fun u7=>
 (u7.asI .i64).bind fun n8=>
 (if(!decide (n8=0))=true then
 some (.tup [.c (.int .i64 x89), .c (.int .i64 n8)])
 else
 y25_2 M a_0 a_1 a_2 a_3 x87 x88 (IntKind.wrap .i64 (x89+1)))
 else
 some (.tup [.c (.int .i64 0), .c (.int .i64 0)])):=yq (by kernel_rfl)
theorem k1O(M:YM)(a_0:Int)(a_1 a_2 a_3:U):y26 M a_0 a_1 a_2 a_3=
 (y36 M a_0 a_1 a_2 a_3).bind fun r1=>
 r1.toU.bind fun u2=>
 (u2.asI .i64).bind fun n3=>
 (if(!decide (n3=0))=true then
 some (.tup [.st [.c (.int .i64 0),Sx.fz (⟨false,0,[]⟩:Sx),Sx.fz (⟨false,0,[]⟩:Sx),Sx.fz (⟨false,0,[]⟩:Sx)],Sx.fz (⟨false,0,[]⟩:Sx), .c (.int .i64 n3)])
 else
 (y64 M a_0 a_1 a_2 a_3).bind fun r4=>
 r4.asTup.bind fun t5=>
 (t5[0]?).bind fun u6=>
 (u6.exact ks2).bind fun f7=>
 (t5[1]?).bind fun u8=>
 u8.one.bind fun u9=>
 some (.tup [.st [.c (.int .i64 ((f7 0).i)),(f7 1),(f7 2),(f7 3)],u9, .c (.int .i64 0)])):=yq (by kernel_rfl)
theorem k1P(M:YM)(a_0:Int)(a_1 a_2 a_3:U):y27 M a_0 a_1 a_2 a_3=
 (y41 M a_0 0 300).bind fun r1=>
 r1.toU.bind fun u2=>
 u2.asB.bind fun b3=>
 (if(!b3)=true then
 some (.tup [.c (.int .i64 0), .c (.int .i64 3)])
 else
 a_2.len.bind fun k4=>
 (if(decide (6000<((k4:Nat):Int)))=false then
 a_3.len.bind fun k5=>
 some (decide (8<((k5:Nat):Int)))
 else
 some (decide (6000<((k4:Nat):Int)))).bind fun q6=>
 (if q6=true then
 some (.tup [.c (.int .i64 0), .c (.int .i64 2)])
 else
 y27_1 M a_0 a_1 a_2 a_3 0)):=yq (by kernel_rfl)
theorem w0e(M:YM)(a_0:Int)(a_1 a_2 a_3:U)(i:Int):y27_1 M a_0 a_1 a_2 a_3 i=
 a_1.len.bind fun k1=>
 (if(decide (i<((k1:Nat):Int)))=true then
 (y65 M a_0 a_1 a_2 a_3 a_1 i).bind fun r2=>
 r2.toU.bind fun u3=>
 (u3.asI .i64).bind fun n4=>
 (if(!decide (n4=0))=true then
 some (.tup [.c (.int .i64 i), .c (.int .i64 n4)])
 else
 y27_1 M a_0 a_1 a_2 a_3 (IntKind.wrap .i64 (i+1)))
 else
 y27_2 M a_0 a_1 a_2 a_3 0):=yq (by kernel_rfl)
theorem w0f(M:YM)(a_0:Int)(a_1 a_2 a_3:U)(i:Int):y27_2 M a_0 a_1 a_2 a_3 i=
 a_2.len.bind fun k1=>
 (if(decide (i<((k1:Nat):Int)))=true then
 (a_2.idx 4 i).bind fun v2=>
 (U.struct v2 0 ks0).bind fun f3=>
 (y41 M ((f3 0).i) 0 (IntKind.wrap .i64 (a_0 - 1))).bind fun r4=>
 r4.toU.bind fun u5=>
 u5.asB.bind fun b6=>
 (if(!b6)=false then
 (y41 M ((f3 1).i) 0 (IntKind.wrap .i64 (a_0 - 1))).bind fun r7=>
 r7.toU.bind fun u8=>
 u8.asB.bind fun b9=>
 some (!b9)
 else
 some (!b6)).bind fun q10=>
 (if q10=false then
 (y41 M ((f3 2).i) 0 4095).bind fun r11=>
 r11.toU.bind fun u12=>
 u12.asB.bind fun b13=>
 some (!b13)
 else
 some q10).bind fun q14=>
 (if q14=false then
 (y41 M ((f3 3).i) 0 4095).bind fun r15=>
 r15.toU.bind fun u16=>
 u16.asB.bind fun b17=>
 some (!b17)
 else
 some q14).bind fun q18=>
 (if q18=true then
 some (.tup [.c (.int .i64 i), .c (.int .i64 3)])
 else
 y27_2 M a_0 a_1 a_2 a_3 (IntKind.wrap .i64 (i+1)))
 else
 y27_3 M a_0 a_1 a_2 a_3 0):=yq (by kernel_rfl)
theorem w0g(M:YM)(a_0:Int)(a_1 a_2 a_3:U)(i:Int):y27_3 M a_0 a_1 a_2 a_3 i=
 a_3.len.bind fun k1=>
 (if(decide (i<((k1:Nat):Int)))=true then
 y27_4 M a_0 a_1 a_2 a_3 i 0
 else
 some (.tup [.c (.int .i64 0), .c (.int .i64 0)])):=yq (by kernel_rfl)
theorem w0h(M:YM)(a_0:Int)(a_1 a_2 a_3:U)(i k:Int):y27_4 M a_0 a_1 a_2 a_3 i k=
 (a_3.idx 1 i).bind fun v1=>
 (v1.cell 0).bind fun c2=>
 c2.len.bind fun k3=>
 (if(decide (k<((k3:Nat):Int)))=true then
 (a_3.idx 1 i).bind fun v4=>
 (v4.cell 0).bind fun c5=>
 (y65 M a_0 a_1 a_2 a_3 c5 k).bind fun r6=>
 r6.toU.bind fun u7=>
 (u7.asI .i64).bind fun n8=>
 (if(!decide (n8=0))=true then
 some (.tup [.c (.int .i64 i), .c (.int .i64 n8)])
 else
 y27_4 M a_0 a_1 a_2 a_3 i (IntKind.wrap .i64 (k+1)))
 else
 y27_3 M a_0 a_1 a_2 a_3 (IntKind.wrap .i64 (i+1))):=yq (by kernel_rfl)
theorem Q1x(M:YM)(a_0:Int)(a_1 a_2 a_3:U):y28 M a_0 a_1 a_2 a_3=
 (y30 M a_0 a_1 a_2 a_3 0 (Sx.fz (⟨false,0,[]⟩:Sx)) (Sx.fz (⟨false,0,[]⟩:Sx)) (Sx.fz (⟨false,0,[]⟩:Sx))).bind fun r1=>
 r1.toU.bind fun u2=>
 u2.asB.bind fun b3=>
 some (.val (.c (.bool b3))):=yq (by kernel_rfl)
theorem Q1y(M:YM)(a_0:Int)(a_1 a_2 a_3:U):y29 M a_0 a_1 a_2 a_3=
 (y40 M a_0 a_1 a_2 a_3).bind fun r1=>
 r1.toU.bind fun u2=>
 u2.one.bind fun u3=>
 (if 0<=a_0/\a_0<=2 ^ 36/\1=1 then
 y29_1 M a_0 a_1 a_2 a_3 0 u3 0 (⟨false,0,[]⟩:Sx) (⟨false,0,[]⟩:Sx) (⟨false,0,[]⟩:Sx) (⟨true,1,(List.replicate a_0.toNat (.c (.int .i64 0)):List U)⟩:Sx) (⟨false,0,[]⟩:Sx)
 else
 none):=yq (by kernel_rfl)
theorem K0x(M:YM)(a_0:Int)(a_1 a_2 a_3:U)(x2_0:Int)(is:U)(i:Int)(x2_1 x2_2 x2_3 number old:Sx):y29_1 M a_0 a_1 a_2 a_3 x2_0 is i x2_1 x2_2 x2_3 number old=
 (if(decide (i<a_0))=true then
 (is.idx 1 i).bind fun v1=>
 (v1.cell 0).bind fun c2=>
 c2.asB.bind fun b3=>
 (if b3=true then
 (if Sx.has number 1 i=true then
 (Sx.put number 1 i.toNat 0 (.c (.int .i64 (((old.es).length:Nat):Int)))).bind fun s4=>
 (Sx.app old 1 ([.c (.int .i64 i)])).bind fun s5=>
 y29_2 M a_0 a_1 a_2 a_3 x2_0 is i x2_1 x2_2 x2_3 s4 s5
 else
 none)
 else
 y29_2 M a_0 a_1 a_2 a_3 x2_0 is i x2_1 x2_2 x2_3 number old)
 else
 (y66 M a_1 is (Sx.fz number)).bind fun r6=>
 r6.asSl.bind fun s7=>
 y29_3 M a_0 a_1 a_2 a_3 x2_0 is (((old.es).length:Nat):Int) 0 x2_1 x2_2 x2_3 number old s7 (⟨false,0,[]⟩:Sx) (⟨false,0,[]⟩:Sx)):=yq (by kernel_rfl)
theorem K0y(M:YM)(a_0:Int)(a_1 a_2 a_3:U)(x2_0:Int)(is:U)(i:Int)(x2_1 x2_2 x2_3 number old:Sx):y29_2 M a_0 a_1 a_2 a_3 x2_0 is i x2_1 x2_2 x2_3 number old=
 y29_1 M a_0 a_1 a_2 a_3 x2_0 is (IntKind.wrap .i64 (i+1)) x2_1 x2_2 x2_3 number old:=yq (by kernel_rfl)
theorem K0z(M:YM)(a_0:Int)(a_1 a_2 a_3:U)(x2_0:Int)(is:U)(out_0 i:Int)(x2_1 x2_2 x2_3 number old out_1 out_2 out_3:Sx):y29_3 M a_0 a_1 a_2 a_3 x2_0 is out_0 i x2_1 x2_2 x2_3 number old out_1 out_2 out_3=
 a_2.len.bind fun k1=>
 (if(decide (i<((k1:Nat):Int)))=true then
 (a_2.idx 4 i).bind fun v2=>
 (U.struct v2 0 ks0).bind fun f3=>
 (is.idx 1 ((f3 0).i)).bind fun v4=>
 (v4.cell 0).bind fun c5=>
 c5.asB.bind fun b6=>
 (if b6=true then
 (is.idx 1 ((f3 1).i)).bind fun v7=>
 (v7.cell 0).bind fun c8=>
 c8.asB.bind fun b9=>
 some b9
 else
 some b6).bind fun q10=>
 (if q10=true then
 (if Sx.has number 1 ((f3 0).i)=true then
 (if Sx.has number 1 ((f3 1).i)=true then
 ((number.es)[((f3 0).i).toNat]?).bind fun v11=>
 (v11.cell 0).bind fun c12=>
 (c12.asI .i64).bind fun n13=>
 ((number.es)[((f3 1).i).toNat]?).bind fun v14=>
 (v14.cell 0).bind fun c15=>
 (c15.asI .i64).bind fun n16=>
 (Sx.app out_2 4 ([.st [.c (.int .i64 n13), .c (.int .i64 n16), .c (.int .i64 ((f3 2).i)), .c (.int .i64 ((f3 3).i))]])).bind fun s17=>
 y29_4 M a_0 a_1 a_2 a_3 x2_0 is out_0 i x2_1 x2_2 x2_3 number old out_1 s17 out_3
 else
 none)
 else
 none)
 else
 y29_4 M a_0 a_1 a_2 a_3 x2_0 is out_0 i x2_1 x2_2 x2_3 number old out_1 out_2 out_3)
 else
 y29_5 M a_0 a_1 a_2 a_3 x2_0 is out_0 0 x2_1 x2_2 x2_3 number old out_1 out_2 out_3):=yq (by kernel_rfl)
theorem K0A(M:YM)(a_0:Int)(a_1 a_2 a_3:U)(x2_0:Int)(is:U)(out_0 i:Int)(x2_1 x2_2 x2_3 number old out_1 out_2 out_3:Sx):y29_4 M a_0 a_1 a_2 a_3 x2_0 is out_0 i x2_1 x2_2 x2_3 number old out_1 out_2 out_3=
 y29_3 M a_0 a_1 a_2 a_3 x2_0 is out_0 (IntKind.wrap .i64 (i+1)) x2_1 x2_2 x2_3 number old out_1 out_2 out_3:=yq (by kernel_rfl)
theorem K0B(M:YM)(a_0:Int)(a_1 a_2 a_3:U)(x2_0:Int)(is:U)(out_0 k:Int)(x2_1 x2_2 x2_3 number old out_1 out_2 out_3:Sx):y29_5 M a_0 a_1 a_2 a_3 x2_0 is out_0 k x2_1 x2_2 x2_3 number old out_1 out_2 out_3=
 a_3.len.bind fun k1=>
 (if(decide (k<((k1:Nat):Int)))=true then
 (a_3.idx 1 k).bind fun v2=>
 (v2.cell 0).bind fun c3=>
 (y66 M c3 is (Sx.fz number)).bind fun r4=>
 r4.asSl.bind fun s5=>
 (Sx.app out_3 1 ([Sx.fz s5])).bind fun s6=>
 y29_5 M a_0 a_1 a_2 a_3 x2_0 is out_0 (IntKind.wrap .i64 (k+1)) x2_1 x2_2 x2_3 number old out_1 out_2 s6
 else
 some (.tup [.st [.c (.int .i64 out_0),Sx.fz out_1,Sx.fz out_2,Sx.fz out_3],Sx.fz old])):=yq (by kernel_rfl)
theorem Q1z(M:YM)(a_0:Int)(a_1 a_2 a_3:U)(b_0:Int)(b_1 b_2 b_3:U):y30 M a_0 a_1 a_2 a_3 b_0 b_1 b_2 b_3=
 (if(!decide (a_0=b_0))=false then
 (y31 M a_1 b_1).bind fun r1=>
 r1.toU.bind fun u2=>
 u2.asB.bind fun b3=>
 some (!b3)
 else
 some (!decide (a_0=b_0))).bind fun q4=>
 (if q4=false then
 a_2.len.bind fun k5=>
 b_2.len.bind fun k6=>
 some (!decide (((k5:Nat):Int)=((k6:Nat):Int)))
 else
 some q4).bind fun q7=>
 (if q7=false then
 (y67 M a_3 b_3).bind fun r8=>
 r8.toU.bind fun u9=>
 u9.asB.bind fun b10=>
 some (!b10)
 else
 some q7).bind fun q11=>
 (if q11=true then
 some (.val (.c (.bool false)))
 else
 y30_1 M a_0 a_1 a_2 a_3 b_0 b_1 b_2 b_3 0):=yq (by kernel_rfl)
theorem K0C(M:YM)(a_0:Int)(a_1 a_2 a_3:U)(b_0:Int)(b_1 b_2 b_3:U)(i:Int):y30_1 M a_0 a_1 a_2 a_3 b_0 b_1 b_2 b_3 i=
 a_2.len.bind fun k1=>
 (if(decide (i<((k1:Nat):Int)))=true then
 (a_2.idx 4 i).bind fun v2=>
 (b_2.idx 4 i).bind fun v3=>
 (U.struct v2 0 ks0).bind fun f4=>
 (U.struct v3 0 ks0).bind fun f5=>
 (eqUs ks0 (.st [.c (.int .i64 ((f4 0).i)), .c (.int .i64 ((f4 1).i)), .c (.int .i64 ((f4 2).i)), .c (.int .i64 ((f4 3).i))]:U) (.st [.c (.int .i64 ((f5 0).i)), .c (.int .i64 ((f5 1).i)), .c (.int .i64 ((f5 2).i)), .c (.int .i64 ((f5 3).i))]:U)).bind fun b6=>
 (if(b6 !=true)=true then
 some (.val (.c (.bool false)))
 else
 y30_1 M a_0 a_1 a_2 a_3 b_0 b_1 b_2 b_3 (IntKind.wrap .i64 (i+1)))
 else
 some (.val (.c (.bool true)))):=yq (by kernel_rfl)
theorem Q1A(M:YM)(a b:U):y31 M a b=
 a.len.bind fun k1=>
 b.len.bind fun k2=>
 (if(!decide (((k1:Nat):Int)=((k2:Nat):Int)))=true then
 some (.val (.c (.bool false)))
 else
 y31_1 M a b 0):=yq (by kernel_rfl)
theorem K0D(M:YM)(a b:U)(i:Int):y31_1 M a b i=
 a.len.bind fun k1=>
 (if(decide (i<((k1:Nat):Int)))=true then
 (a.idx 1 i).bind fun v2=>
 (b.idx 1 i).bind fun v3=>
 (v2.cell 0).bind fun c4=>
 (c4.asI .i64).bind fun n5=>
 (v3.cell 0).bind fun c6=>
 (c6.asI .i64).bind fun n7=>
 (if(!decide (n5=n7))=true then
 some (.val (.c (.bool false)))
 else
 y31_1 M a b (IntKind.wrap .i64 (i+1)))
 else
 some (.val (.c (.bool true)))):=yq (by kernel_rfl)
theorem Q1B(M:YM)(a_0:Int)(a_1 a_2 a_3:U):y36 M a_0 a_1 a_2 a_3=
 (y25 M a_0 a_1 a_2 a_3).bind fun r1=>
 r1.asTup.bind fun t2=>
 (t2[0]?).bind fun u3=>
 (u3.asI .i64).bind fun n4=>
 (t2[1]?).bind fun u5=>
 (u5.asI .i64).bind fun n6=>
 some (.val (.c (.int .i64 n6))):=yq (by kernel_rfl)
theorem Q1C(M:YM)(l:U):y38 M l=
 (U.asL l).bind fun l1=>
 (Sx.app (⟨true,1,[]⟩:Sx) 1 l1.2).bind fun s2=>
 (if scals s2.es=true then
 some (.sl s2)
 else
 none):=yq (by kernel_rfl)
theorem Q1D(M:YM)(l:U):y39 M l=
 y39_1 M l 0 (⟨false,0,[]⟩:Sx):=yq (by kernel_rfl)
theorem K0E(M:YM)(l:U)(i:Int)(out:Sx):y39_1 M l i out=
 l.len.bind fun k1=>
 (if(decide (i<((k1:Nat):Int)))=true then
 (l.idx 1 i).bind fun v2=>
 (v2.cell 0).bind fun c3=>
 (y38 M c3).bind fun r4=>
 r4.asSl.bind fun s5=>
 (Sx.app out 1 ([Sx.fz s5])).bind fun s6=>
 y39_1 M l (IntKind.wrap .i64 (i+1)) s6
 else
 some (.sl out)):=yq (by kernel_rfl)
theorem Q1E(M:YM)(n low high:Int):y41 M n low high=
 (if(decide (low<=n))=true then
 some (decide (n<=high))
 else
 some (decide (low<=n))).bind fun q1=>
 some (.val (.c (.bool q1))):=yq (by kernel_rfl)
theorem Q1F(M:YM)(x_0 x_1 x_2 x_3 letter:Int):y43 M x_0 x_1 x_2 x_3 letter=
 y43_1 M letter x_0 x_1 x_2 x_3 0:=yq (by kernel_rfl)
theorem K0F(M:YM)(letter x_0 x_1 x_2 x_3 i:Int):y43_1 M letter x_0 x_1 x_2 x_3 i=
 (if(decide (i<12))=true then
 (y81 M x_2 i).bind fun r1=>
 r1.toU.bind fun u2=>
 u2.asB.bind fun b3=>
 (if b3=true then
 (y81 M letter i).bind fun r4=>
 r4.toU.bind fun u5=>
 u5.asB.bind fun b6=>
 some (!b6)
 else
 some b3).bind fun q7=>
 (if q7=false then
 (y81 M x_3 i).bind fun r8=>
 r8.toU.bind fun u9=>
 u9.asB.bind fun b10=>
 (if b10=true then
 (y81 M letter i).bind fun r11=>
 r11.toU.bind fun u12=>
 u12.asB.bind fun b13=>
 some b13
 else
 some b10).bind fun q14=>
 some q14
 else
 some q7).bind fun q15=>
 (if q15=true then
 some (.val (.c (.bool false)))
 else
 y43_1 M letter x_0 x_1 x_2 x_3 (IntKind.wrap .i64 (i+1)))
 else
 some (.val (.c (.bool true)))):=yq (by kernel_rfl)
theorem k1Q(M:YM)(next sets:U):y44 M next sets=
 next.len.bind fun k1=>
 (if 0<=((k1:Nat):Int)/\((k1:Nat):Int)<=2 ^ 36/\1=1 then
 y44_1 M next sets 0 (⟨true,1,(List.replicate ((k1:Nat):Int).toNat (.c (.bool false)):List U)⟩:Sx)
 else
 none):=yq (by kernel_rfl)
theorem Q0Q(M:YM)(next sets:U)(i:Int)(vin:Sx):y44_1 M next sets i vin=
 (if(decide (i<(((vin.es).length:Nat):Int)))=true then
 (if Sx.has vin 1 i=true then
 (Sx.put vin 1 i.toNat 0 (.c (.bool true))).bind fun s1=>
 y44_1 M next sets (IntKind.wrap .i64 (i+1)) s1
 else
 none)
 else
 (y82 M next).bind fun r2=>
 r2.toU.bind fun u3=>
 u3.one.bind fun u4=>
 sets.len.bind fun k5=>
 (if(decide (((k5:Nat):Int)=0))=true then
 (Sx.app (⟨true,1,[]⟩:Sx) 1 vin.es).bind fun s6=>
 y44_2 M u4 vin (⟨true,1,[Sx.fz s6]⟩:Sx)
 else
 y44_2b M u4 sets vin)):=yq (by kernel_rfl)
theorem j1O(M:YM)(before:U)(vin all:Sx):y44_2 M before vin all=
 y44_3 M before true vin all:=yq (by kernel_rfl)
theorem Y0q(M:YM)(before all:U)(vin:Sx):y44_2b M before all vin=
 y44_3b M before all true vin:=yq (by kernel_rfl)
theorem j1P(M:YM)(before:U)(changed:Bool)(vin all:Sx):y44_3 M before changed vin all=
 (if changed=true then
 y44_4 M before false 0 vin all
 else
 (if scals vin.es=true then
 some (.sl vin)
 else
 none)):=yq (by kernel_rfl)
theorem Y0r(M:YM)(before all:U)(changed:Bool)(vin:Sx):y44_3b M before all changed vin=
 (if changed=true then
 y44_4b M before all false 0 vin
 else
 (if scals vin.es=true then
 some (.sl vin)
 else
 none)):=yq (by kernel_rfl)
theorem K0G(M:YM)(before:U)(changed:Bool)(k:Int)(vin all:Sx):y44_4 M before changed k vin all=
 (if(decide (k<(((all.es).length:Nat):Int)))=true then
 (if Sx.has all 1 k=true then
 ((all.es)[k.toNat]?).bind fun v1=>
 (v1.cell 0).bind fun c2=>
 (y83 M before (Sx.fz vin) c2).bind fun r3=>
 r3.asSl.bind fun s4=>
 y44_5 M before changed k 0 vin all s4
 else
 none)
 else
 y44_3 M before changed vin all):=yq (by kernel_rfl)
theorem J0J(M:YM)(before all:U)(changed:Bool)(k:Int)(vin:Sx):y44_4b M before all changed k vin=
 all.len.bind fun k1=>
 (if(decide (k<((k1:Nat):Int)))=true then
 (all.idx 1 k).bind fun v2=>
 (v2.cell 0).bind fun c3=>
 (y83 M before (Sx.fz vin) c3).bind fun r4=>
 r4.asSl.bind fun s5=>
 y44_5b M before all changed k 0 vin s5
 else
 y44_3b M before all changed vin):=yq (by kernel_rfl)
theorem K0H(M:YM)(before:U)(changed:Bool)(k i:Int)(vin all now:Sx):y44_5 M before changed k i vin all now=
 (if(decide (i<(((vin.es).length:Nat):Int)))=true then
 (if Sx.has vin 1 i=true then
 ((vin.es)[i.toNat]?).bind fun v1=>
 (v1.cell 0).bind fun c2=>
 c2.asB.bind fun b3=>
 (if b3=true then
 (if Sx.has now 1 i=true then
 ((now.es)[i.toNat]?).bind fun v4=>
 (v4.cell 0).bind fun c5=>
 c5.asB.bind fun b6=>
 some (!b6)
 else
 none)
 else
 some b3).bind fun q7=>
 (if q7=true then
 (if Sx.has vin 1 i=true then
 (Sx.put vin 1 i.toNat 0 (.c (.bool false))).bind fun s8=>
 y44_6 M before true k i s8 all now
 else
 none)
 else
 y44_6 M before changed k i vin all now)
 else
 none)
 else
 y44_4 M before changed (IntKind.wrap .i64 (k+1)) vin all):=yq (by kernel_rfl)
theorem J0K(M:YM)(before all:U)(changed:Bool)(k i:Int)(vin now:Sx):y44_5b M before all changed k i vin now=
 (if(decide (i<(((vin.es).length:Nat):Int)))=true then
 (if Sx.has vin 1 i=true then
 ((vin.es)[i.toNat]?).bind fun v1=>
 (v1.cell 0).bind fun c2=>
 c2.asB.bind fun b3=>
 (if b3=true then
 (if Sx.has now 1 i=true then
 ((now.es)[i.toNat]?).bind fun v4=>
 (v4.cell 0).bind fun c5=>
 c5.asB.bind fun b6=>
 some (!b6)
 else
 none)
 else
 some b3).bind fun q7=>
 (if q7=true then
 (if Sx.has vin 1 i=true then
 (Sx.put vin 1 i.toNat 0 (.c (.bool false))).bind fun s8=>
 y44_6b M before all true k i s8 now
 else
 none)
 else
 y44_6b M before all changed k i vin now)
 else
 none)
 else
 y44_4b M before all changed (IntKind.wrap .i64 (k+1)) vin):=yq (by kernel_rfl)
theorem j1Q(M:YM)(before:U)(changed:Bool)(k i:Int)(vin all now:Sx):y44_6 M before changed k i vin all now=
 y44_5 M before changed k (IntKind.wrap .i64 (i+1)) vin all now:=yq (by kernel_rfl)
theorem Y0s(M:YM)(before all:U)(changed:Bool)(k i:Int)(vin now:Sx):y44_6b M before all changed k i vin now=
 y44_5b M before all changed k (IntKind.wrap .i64 (i+1)) vin now:=yq (by kernel_rfl)
theorem Q1G(M:YM)(vals:U):y52 M vals=
 vals.len.bind fun k1=>
 y52_1 M 0 vals ((k1:Nat):Int) 0:=yq (by kernel_rfl)
theorem K0I(M:YM)(zero:Int)(x6:U)(x7 x8:Int):y52_1 M zero x6 x7 x8=
 (if(decide (x8<x7))=true then
 (x6.idx 1 x8).bind fun v1=>
 (v1.cell 0).bind fun c2=>
 (c2.asI .i64).bind fun n3=>
 (if(!decide (n3=zero))=true then
 some (.val (.c (.int .i64 n3)))
 else
 y52_1 M zero x6 x7 (IntKind.wrap .i64 (x8+1)))
 else
 some (.val (.c (.int .i64 zero)))):=yq (by kernel_rfl)
theorem Q1H(M:YM)(is:Bool)(code:Int):y53 M is code=
 (if is=true then
 some (.val (.c (.int .i64 code)))
 else
 some (.val (.c (.int .i64 0)))):=yq (by kernel_rfl)
theorem Q1I(M:YM)(n vfrom to:Int):y55 M n vfrom to=
 (if(decide (vfrom<=n))=true then
 some (decide (n<=to))
 else
 some (decide (vfrom<=n))).bind fun q1=>
 some (.val (.c (.bool q1))):=yq (by kernel_rfl)
theorem Q1J(M:YM)(s:U)(v:Int):y56 M s v=
 (y90 M s v).bind fun r1=>
 r1.toU.bind fun u2=>
 (u2.asI .i64).bind fun n3=>
 some (.val (.c (.bool (decide (0<=n3))))):=yq (by kernel_rfl)
theorem k1R(M:YM)(l:U)(states:Int):y63 M l states=
 l.len.bind fun k1=>
 y63_1 M l states l ((k1:Nat):Int) 0:=yq (by kernel_rfl)
theorem w0i(M:YM)(l:U)(states:Int)(x9:U)(x10 x11:Int):y63_1 M l states x9 x10 x11=
 (if(decide (x11<x10))=true then
 (x9.idx 1 x11).bind fun v1=>
 (v1.cell 0).bind fun c2=>
 (c2.asI .i64).bind fun n3=>
 (y55 M n3 0 (IntKind.wrap .i64 (states - 1))).bind fun r4=>
 r4.toU.bind fun u5=>
 u5.asB.bind fun b6=>
 (y53 M (!b6) 3).bind fun r7=>
 r7.toU.bind fun u8=>
 (u8.asI .i64).bind fun n9=>
 (if(decide (0<x11))=true then
 (l.idx 1 (if 0>(IntKind.wrap .i64 (x11 - 1))then 0 else(IntKind.wrap .i64 (x11 - 1)))).bind fun v10=>
 (v10.cell 0).bind fun c11=>
 (c11.asI .i64).bind fun n12=>
 some (decide (n3<=n12))
 else
 some (decide (0<x11))).bind fun q13=>
 (y53 M q13 13).bind fun r14=>
 r14.toU.bind fun u15=>
 (u15.asI .i64).bind fun n16=>
 (y52 M (Sx.fz (⟨true,1,[.c (.int .i64 n9), .c (.int .i64 n16)]⟩:Sx))).bind fun r17=>
 r17.toU.bind fun u18=>
 (u18.asI .i64).bind fun n19=>
 (if(!decide (n19=0))=true then
 some (.tup [.c (.int .i64 x11), .c (.int .i64 n19)])
 else
 y63_1 M l states x9 x10 (IntKind.wrap .i64 (x11+1)))
 else
 some (.tup [.c (.int .i64 0), .c (.int .i64 0)])):=yq (by kernel_rfl)
theorem Q1K(M:YM)(a_0:Int)(a_1 a_2 a_3 l:U)(i:Int):y65 M a_0 a_1 a_2 a_3 l i=
 (l.idx 1 i).bind fun v1=>
 (v1.cell 0).bind fun c2=>
 (c2.asI .i64).bind fun n3=>
 (y41 M n3 0 (IntKind.wrap .i64 (a_0 - 1))).bind fun r4=>
 r4.toU.bind fun u5=>
 u5.asB.bind fun b6=>
 (if(!b6)=true then
 some (.val (.c (.int .i64 3)))
 else
 (if(decide (0<i))=true then
 (l.idx 1 i).bind fun v7=>
 (l.idx 1 (IntKind.wrap .i64 (i - 1))).bind fun v8=>
 (v7.cell 0).bind fun c9=>
 (c9.asI .i64).bind fun n10=>
 (v8.cell 0).bind fun c11=>
 (c11.asI .i64).bind fun n12=>
 some (decide (n10<=n12))
 else
 some (decide (0<i))).bind fun q13=>
 (if q13=true then
 some (.val (.c (.int .i64 13)))
 else
 some (.val (.c (.int .i64 0))))):=yq (by kernel_rfl)
theorem Q1L(M:YM)(l is number:U):y66 M l is number=
 y66_1 M l is number 0 (⟨false,0,[]⟩:Sx):=yq (by kernel_rfl)
theorem K0J(M:YM)(l is number:U)(i:Int)(out:Sx):y66_1 M l is number i out=
 l.len.bind fun k1=>
 (if(decide (i<((k1:Nat):Int)))=true then
 (l.idx 1 i).bind fun v2=>
 (v2.cell 0).bind fun c3=>
 (c3.asI .i64).bind fun n4=>
 (is.idx 1 n4).bind fun v5=>
 (v5.cell 0).bind fun c6=>
 c6.asB.bind fun b7=>
 (if b7=true then
 (l.idx 1 i).bind fun v8=>
 (v8.cell 0).bind fun c9=>
 (c9.asI .i64).bind fun n10=>
 (number.idx 1 n10).bind fun v11=>
 (v11.cell 0).bind fun c12=>
 (c12.asI .i64).bind fun n13=>
 (Sx.app out 1 ([.c (.int .i64 n13)])).bind fun s14=>
 y66_2 M l is number i s14
 else
 y66_2 M l is number i out)
 else
 (if scals out.es=true then
 some (.sl out)
 else
 none)):=yq (by kernel_rfl)
theorem j1R(M:YM)(l is number:U)(i:Int)(out:Sx):y66_2 M l is number i out=
 y66_1 M l is number (IntKind.wrap .i64 (i+1)) out:=yq (by kernel_rfl)
theorem Q1M(M:YM)(a b:U):y67 M a b=
 a.len.bind fun k1=>
 b.len.bind fun k2=>
 (if(!decide (((k1:Nat):Int)=((k2:Nat):Int)))=true then
 some (.val (.c (.bool false)))
 else
 y67_1 M a b 0):=yq (by kernel_rfl)
theorem K0K(M:YM)(a b:U)(i:Int):y67_1 M a b i=
 a.len.bind fun k1=>
 (if(decide (i<((k1:Nat):Int)))=true then
 (a.idx 1 i).bind fun v2=>
 (b.idx 1 i).bind fun v3=>
 (v2.cell 0).bind fun c4=>
 (v3.cell 0).bind fun c5=>
 (y31 M c4 c5).bind fun r6=>
 r6.toU.bind fun u7=>
 u7.asB.bind fun b8=>
 (if(!b8)=true then
 some (.val (.c (.bool false)))
 else
 y67_1 M a b (IntKind.wrap .i64 (i+1)))
 else
 some (.val (.c (.bool true)))):=yq (by kernel_rfl)
theorem Q1N(M:YM)(x_0 x_1 x_2 x_3:Int):y69 M x_0 x_1 x_2 x_3=
 some (.val (.c (.bool (decide ((bitI .and .i64 x_2 x_3)=0))))):=yq (by kernel_rfl)
theorem Q1O(M:YM)(x_0 x_1 x_2 x_3:Int):y78 M x_0 x_1 x_2 x_3=
 (y43 M x_0 x_1 x_2 x_3 x_2).bind fun r1=>
 r1.toU.bind fun u2=>
 u2.asB.bind fun b3=>
 some (.val (.c (.bool b3))):=yq (by kernel_rfl)
theorem Q1P(M:YM)(n:Int)(l:U):y79 M n l=
 (if 0<=n/\n<=2 ^ 36/\1=1 then
 y79_1 M l 0 (⟨true,1,(List.replicate n.toNat (.c (.bool false)):List U)⟩:Sx)
 else
 none):=yq (by kernel_rfl)
theorem K0L(M:YM)(l:U)(i:Int)(out:Sx):y79_1 M l i out=
 l.len.bind fun k1=>
 (if(decide (i<((k1:Nat):Int)))=true then
 (l.idx 1 i).bind fun v2=>
 (v2.cell 0).bind fun c3=>
 (c3.asI .i64).bind fun n4=>
 (if Sx.has out 1 n4=true then
 (Sx.put out 1 n4.toNat 0 (.c (.bool true))).bind fun s5=>
 y79_1 M l (IntKind.wrap .i64 (i+1)) s5
 else
 none)
 else
 (if scals out.es=true then
 some (.sl out)
 else
 none)):=yq (by kernel_rfl)
theorem Q1Q(M:YM)(next vfrom:U):y80 M next vfrom=
 next.len.bind fun k1=>
 (if 0<=((k1:Nat):Int)/\((k1:Nat):Int)<=2 ^ 36/\1=1 then
 (y38 M vfrom).bind fun r2=>
 r2.asSl.bind fun s3=>
 y80_1 M next vfrom 0 (⟨true,1,(List.replicate ((k1:Nat):Int).toNat (.c (.bool false)):List U)⟩:Sx) s3
 else
 none):=yq (by kernel_rfl)
theorem K0M(M:YM)(next vfrom:U)(i:Int)(out vopen:Sx):y80_1 M next vfrom i out vopen=
 vfrom.len.bind fun k1=>
 (if(decide (i<((k1:Nat):Int)))=true then
 (vfrom.idx 1 i).bind fun v2=>
 (v2.cell 0).bind fun c3=>
 (c3.asI .i64).bind fun n4=>
 (if Sx.has out 1 n4=true then
 (Sx.put out 1 n4.toNat 0 (.c (.bool true))).bind fun s5=>
 y80_1 M next vfrom (IntKind.wrap .i64 (i+1)) s5 vopen
 else
 none)
 else
 y80_2 M next out vopen):=yq (by kernel_rfl)
theorem K0N(M:YM)(next:U)(out vopen:Sx):y80_2 M next out vopen=
 (if(decide (0<(((vopen.es).length:Nat):Int)))=true then
 (if Sx.has vopen 1 (IntKind.wrap .i64 ((((vopen.es).length:Nat):Int) - 1))=true then
 ((vopen.es)[(IntKind.wrap .i64 ((((vopen.es).length:Nat):Int) - 1)).toNat]?).bind fun v1=>
 (v1.cell 0).bind fun c2=>
 (c2.asI .i64).bind fun n3=>
 (if vopen.sz=1/\vopen.b=true then
 (subU 1 vopen.es 0 (some (IntKind.wrap .i64 ((((vopen.es).length:Nat):Int) - 1)))).bind fun l4=>
 y80_3 M next n3 0 out (Sx.win vopen ((0:Int).toNat) l4.length)
 else
 none)
 else
 none)
 else
 (if scals out.es=true then
 some (.sl out)
 else
 none)):=yq (by kernel_rfl)
theorem K0O(M:YM)(next:U)(x k:Int)(out vopen:Sx):y80_3 M next x k out vopen=
 (next.idx 1 x).bind fun v1=>
 (v1.cell 0).bind fun c2=>
 c2.len.bind fun k3=>
 (if(decide (k<((k3:Nat):Int)))=true then
 (next.idx 1 x).bind fun v4=>
 (v4.cell 0).bind fun c5=>
 (c5.idx 1 k).bind fun v6=>
 (v6.cell 0).bind fun c7=>
 (c7.asI .i64).bind fun n8=>
 (if Sx.has out 1 n8=true then
 ((out.es)[n8.toNat]?).bind fun v9=>
 (v9.cell 0).bind fun c10=>
 c10.asB.bind fun b11=>
 (if(!b11)=true then
 (if Sx.has out 1 n8=true then
 (Sx.put out 1 n8.toNat 0 (.c (.bool true))).bind fun s12=>
 (Sx.app vopen 1 ([.c (.int .i64 n8)])).bind fun s13=>
 y80_4 M next x k s12 s13
 else
 none)
 else
 y80_4 M next x k out vopen)
 else
 none)
 else
 y80_2 M next out vopen):=yq (by kernel_rfl)
theorem j1S(M:YM)(next:U)(x k:Int)(out vopen:Sx):y80_4 M next x k out vopen=
 y80_3 M next x (IntKind.wrap .i64 (k+1)) out vopen:=yq (by kernel_rfl)
theorem Q1R(M:YM)(letter atom:Int):y81 M letter atom=
 (if atom<0 then
 none
 else
 some (.val (.c (.bool (decide ((Int.tmod (shI .shr .i64 letter atom) 2)=1)))))):=yq (by kernel_rfl)
theorem Q1S(M:YM)(before vin vset:U):y83 M before vin vset=
 vin.len.bind fun k1=>
 (if 0<=((k1:Nat):Int)/\((k1:Nat):Int)<=2 ^ 36/\1=1 then
 y83_1 M before vin vset 0 (⟨true,1,(List.replicate ((k1:Nat):Int).toNat (.c (.bool false)):List U)⟩:Sx) (⟨false,0,[]⟩:Sx)
 else
 none):=yq (by kernel_rfl)
theorem K0P(M:YM)(before vin vset:U)(i:Int)(out vopen:Sx):y83_1 M before vin vset i out vopen=
 vin.len.bind fun k1=>
 (if(decide (i<((k1:Nat):Int)))=true then
 (vin.idx 1 i).bind fun v2=>
 (v2.cell 0).bind fun c3=>
 c3.asB.bind fun b4=>
 (if b4=true then
 (vset.idx 1 i).bind fun v5=>
 (v5.cell 0).bind fun c6=>
 c6.asB.bind fun b7=>
 some b7
 else
 some b4).bind fun q8=>
 (if q8=true then
 (Sx.app vopen 1 ([.c (.int .i64 i)])).bind fun s9=>
 y83_2 M before vin vset i out s9
 else
 y83_2 M before vin vset i out vopen)
 else
 y83_3 M before vin out vopen):=yq (by kernel_rfl)
theorem j1T(M:YM)(before vin vset:U)(i:Int)(out vopen:Sx):y83_2 M before vin vset i out vopen=
 y83_1 M before vin vset (IntKind.wrap .i64 (i+1)) out vopen:=yq (by kernel_rfl)
theorem K0Q(M:YM)(before vin:U)(out vopen:Sx):y83_3 M before vin out vopen=
 (if(decide (0<(((vopen.es).length:Nat):Int)))=true then
 (if Sx.has vopen 1 (IntKind.wrap .i64 ((((vopen.es).length:Nat):Int) - 1))=true then
 ((vopen.es)[(IntKind.wrap .i64 ((((vopen.es).length:Nat):Int) - 1)).toNat]?).bind fun v1=>
 (v1.cell 0).bind fun c2=>
 (c2.asI .i64).bind fun n3=>
 (if vopen.sz=1/\vopen.b=true then
 (subU 1 vopen.es 0 (some (IntKind.wrap .i64 ((((vopen.es).length:Nat):Int) - 1)))).bind fun l4=>
 y83_4 M before vin n3 0 out (Sx.win vopen ((0:Int).toNat) l4.length)
 else
 none)
 else
 none)
 else
 (if scals out.es=true then
 some (.sl out)
 else
 none)):=yq (by kernel_rfl)
theorem K0R(M:YM)(before vin:U)(x k:Int)(out vopen:Sx):y83_4 M before vin x k out vopen=
 (before.idx 1 x).bind fun v1=>
 (v1.cell 0).bind fun c2=>
 c2.len.bind fun k3=>
 (if(decide (k<((k3:Nat):Int)))=true then
 (before.idx 1 x).bind fun v4=>
 (v4.cell 0).bind fun c5=>
 (c5.idx 1 k).bind fun v6=>
 (v6.cell 0).bind fun c7=>
 (c7.asI .i64).bind fun n8=>
 (vin.idx 1 n8).bind fun v9=>
 (v9.cell 0).bind fun c10=>
 c10.asB.bind fun b11=>
 (if b11=true then
 (if Sx.has out 1 n8=true then
 ((out.es)[n8.toNat]?).bind fun v12=>
 (v12.cell 0).bind fun c13=>
 c13.asB.bind fun b14=>
 some (!b14)
 else
 none)
 else
 some b11).bind fun q15=>
 (if q15=true then
 (if Sx.has out 1 n8=true then
 (Sx.put out 1 n8.toNat 0 (.c (.bool true))).bind fun s16=>
 (Sx.app vopen 1 ([.c (.int .i64 n8)])).bind fun s17=>
 y83_5 M before vin x k s16 s17
 else
 none)
 else
 y83_5 M before vin x k out vopen)
 else
 y83_3 M before vin out vopen):=yq (by kernel_rfl)
theorem j1U(M:YM)(before vin:U)(x k:Int)(out vopen:Sx):y83_5 M before vin x k out vopen=
 y83_4 M before vin x (IntKind.wrap .i64 (k+1)) out vopen:=yq (by kernel_rfl)
theorem Q1T(M:YM)(l:U)(nodes:Int)(stateOf:U):y85 M l nodes stateOf=
 (if 0<=nodes/\nodes<=2 ^ 36/\1=1 then
 y85_1 M l stateOf ((((List.replicate nodes.toNat (.c (.bool false)):List U)).length:Nat):Int) 0 (⟨true,1,(List.replicate nodes.toNat (.c (.bool false)):List U)⟩:Sx)
 else
 none):=yq (by kernel_rfl)
theorem K0S(M:YM)(l stateOf:U)(x12 x13:Int)(out:Sx):y85_1 M l stateOf x12 x13 out=
 (if(decide (x13<x12))=true then
 stateOf.asF.bind fun g1=>
 (ycall M g1.1 (g1.2.1++[.c (.int .i64 x13)]++g1.2.2)).bind fun r2=>
 r2.toU.bind fun u3=>
 (u3.asI .i64).bind fun n4=>
 (y56 M l n4).bind fun r5=>
 r5.toU.bind fun u6=>
 u6.asB.bind fun b7=>
 (if Sx.has out 1 x13=true then
 (Sx.put out 1 x13.toNat 0 (.c (.bool b7))).bind fun s8=>
 y85_1 M l stateOf x12 (IntKind.wrap .i64 (x13+1)) s8
 else
 none)
 else
 (if scals out.es=true then
 some (.sl out)
 else
 none)):=yq (by kernel_rfl)
theorem Q1U(M:YM)(s:U)(v:Int):y90 M s v=
 s.len.bind fun k1=>
 y90_1 M s v ((k1:Nat):Int) 0:=yq (by kernel_rfl)
theorem K0T(M:YM)(s:U)(v x7 x8:Int):y90_1 M s v x7 x8=
 (if(decide (x8<x7))=true then
 (s.idx 1 x8).bind fun v1=>
 (v1.cell 0).bind fun c2=>
 (c2.asI .i64).bind fun n3=>
 (if(decide (v=n3))=true then
 some (.val (.c (.int .i64 x8)))
 else
 y90_1 M s v x7 (IntKind.wrap .i64 (x8+1)))
 else
 some (.val (.c (.int .i64 (-1))))):=yq (by kernel_rfl)
theorem Q1V(M:YM)(g of sets:U):y92 M g of sets=
 of.len.bind fun k1=>
 y92_1 M g of sets 0 of ((k1:Nat):Int) 0:=yq (by kernel_rfl)
theorem K0U(M:YM)(g of sets:U)(n:Int)(x22:U)(x23 x24:Int):y92_1 M g of sets n x22 x23 x24=
 (if(decide (x24<x23))=true then
 (x22.idx 1 x24).bind fun v1=>
 (v1.cell 0).bind fun c2=>
 (c2.asI .i64).bind fun n3=>
 y92_1 M g of sets (if(IntKind.wrap .i64 (n3+1))>n then(IntKind.wrap .i64 (n3+1))else n) x22 x23 (IntKind.wrap .i64 (x24+1))
 else
 (if 0<=n/\n<=2 ^ 36/\1=1 then
 g.len.bind fun k4=>
 y92_2 M g of sets n g ((k4:Nat):Int) 0 (⟨true,1,(List.replicate n.toNat (.c (.bool false)):List U)⟩:Sx)
 else
 none)):=yq (by kernel_rfl)
theorem K0V(M:YM)(g of sets:U)(n:Int)(x35:U)(x36 x37:Int)(inner:Sx):y92_2 M g of sets n x35 x36 x37 inner=
 (if(decide (x37<x36))=true then
 (x35.idx 1 x37).bind fun v1=>
 (v1.cell 0).bind fun c2=>
 c2.len.bind fun k3=>
 y92_3 M g of sets n x37 x35 x36 x37 c2 ((k3:Nat):Int) 0 inner
 else
 sets.len.bind fun k4=>
 y92_4 M g of n sets ((k4:Nat):Int) 0 inner):=yq (by kernel_rfl)
theorem K0W(M:YM)(g of sets:U)(n v:Int)(x35:U)(x36 x37:Int)(x42:U)(x43 x44:Int)(inner:Sx):y92_3 M g of sets n v x35 x36 x37 x42 x43 x44 inner=
 (if(decide (x44<x43))=true then
 (x42.idx 1 x44).bind fun v1=>
 (v1.cell 0).bind fun c2=>
 (c2.asI .i64).bind fun n3=>
 (of.idx 1 v).bind fun v4=>
 (of.idx 1 v).bind fun v5=>
 (v4.cell 0).bind fun c6=>
 (c6.asI .i64).bind fun n7=>
 (v5.cell 0).bind fun c8=>
 (c8.asI .i64).bind fun n9=>
 (if Sx.has inner 1 n9=true then
 ((inner.es)[n9.toNat]?).bind fun v10=>
 (v10.cell 0).bind fun c11=>
 c11.asB.bind fun b12=>
 (if b12=false then
 (of.idx 1 v).bind fun v13=>
 (of.idx 1 n3).bind fun v14=>
 (v13.cell 0).bind fun c15=>
 (c15.asI .i64).bind fun n16=>
 (v14.cell 0).bind fun c17=>
 (c17.asI .i64).bind fun n18=>
 some (decide (n16=n18))
 else
 some b12).bind fun q19=>
 (if Sx.has inner 1 n7=true then
 (Sx.put inner 1 n7.toNat 0 (.c (.bool q19))).bind fun s20=>
 y92_3 M g of sets n v x35 x36 x37 x42 x43 (IntKind.wrap .i64 (x44+1)) s20
 else
 none)
 else
 none)
 else
 y92_2 M g of sets n x35 x36 (IntKind.wrap .i64 (x37+1)) inner):=yq (by kernel_rfl)
theorem K0X(M:YM)(g of:U)(n:Int)(x74:U)(x75 x76:Int)(inner:Sx):y92_4 M g of n x74 x75 x76 inner=
 (if(decide (x76<x75))=true then
 (x74.idx 1 x76).bind fun v1=>
 (v1.cell 0).bind fun c2=>
 (if 0<=n/\n<=2 ^ 36/\1=1 then
 g.len.bind fun k3=>
 y92_5 M g of n c2 x74 x75 x76 ((k3:Nat):Int) 0 inner (⟨true,1,(List.replicate n.toNat (.c (.bool false)):List U)⟩:Sx)
 else
 none)
 else
 g.len.bind fun k4=>
 (if 0<=((k4:Nat):Int)/\((k4:Nat):Int)<=2 ^ 36/\1=1 then
 g.len.bind fun k5=>
 y92_7 M of ((k5:Nat):Int) 0 inner (⟨true,1,(List.replicate ((k4:Nat):Int).toNat (.c (.bool false)):List U)⟩:Sx)
 else
 none)):=yq (by kernel_rfl)
theorem K0Y(M:YM)(g of:U)(n:Int)(s x74:U)(x75 x76 x83 x84:Int)(inner has:Sx):y92_5 M g of n s x74 x75 x76 x83 x84 inner has=
 (if(decide (x84<x83))=true then
 (of.idx 1 x84).bind fun v1=>
 (of.idx 1 x84).bind fun v2=>
 (v1.cell 0).bind fun c3=>
 (c3.asI .i64).bind fun n4=>
 (v2.cell 0).bind fun c5=>
 (c5.asI .i64).bind fun n6=>
 (if Sx.has has 1 n6=true then
 ((has.es)[n6.toNat]?).bind fun v7=>
 (v7.cell 0).bind fun c8=>
 c8.asB.bind fun b9=>
 (if b9=false then
 (s.idx 1 x84).bind fun v10=>
 (v10.cell 0).bind fun c11=>
 c11.asB.bind fun b12=>
 some b12
 else
 some b9).bind fun q13=>
 (if Sx.has has 1 n4=true then
 (Sx.put has 1 n4.toNat 0 (.c (.bool q13))).bind fun s14=>
 y92_5 M g of n s x74 x75 x76 x83 (IntKind.wrap .i64 (x84+1)) inner s14
 else
 none)
 else
 none)
 else
 y92_6 M g of n x74 x75 x76 (((inner.es).length:Nat):Int) 0 inner has):=yq (by kernel_rfl)
theorem K0Z(M:YM)(of:U)(x131 x132:Int)(inner out:Sx):y92_7 M of x131 x132 inner out=
 (if(decide (x132<x131))=true then
 (of.idx 1 x132).bind fun v1=>
 (v1.cell 0).bind fun c2=>
 (c2.asI .i64).bind fun n3=>
 (if Sx.has inner 1 n3=true then
 ((inner.es)[n3.toNat]?).bind fun v4=>
 (v4.cell 0).bind fun c5=>
 c5.asB.bind fun b6=>
 (if Sx.has out 1 x132=true then
 (Sx.put out 1 x132.toNat 0 (.c (.bool b6))).bind fun s7=>
 y92_7 M of x131 (IntKind.wrap .i64 (x132+1)) inner s7
 else
 none)
 else
 none)
 else
 (if scals out.es=true then
 some (.sl out)
 else
 none)):=yq (by kernel_rfl)
theorem W0a(M:YM)(g of:U)(n:Int)(x74:U)(x75 x76 x108 x109:Int)(inner has:Sx):y92_6 M g of n x74 x75 x76 x108 x109 inner has=
 (if(decide (x109<x108))=true then
 (if Sx.has inner 1 x109=true then
 ((inner.es)[x109.toNat]?).bind fun v1=>
 (v1.cell 0).bind fun c2=>
 c2.asB.bind fun b3=>
 (if b3=true then
 (if Sx.has has 1 x109=true then
 ((has.es)[x109.toNat]?).bind fun v4=>
 (v4.cell 0).bind fun c5=>
 c5.asB.bind fun b6=>
 some b6
 else
 none)
 else
 some b3).bind fun q7=>
 (if Sx.has inner 1 x109=true then
 (Sx.put inner 1 x109.toNat 0 (.c (.bool q7))).bind fun s8=>
 y92_6 M g of n x74 x75 x76 x108 (IntKind.wrap .i64 (x109+1)) s8 has
 else
 none)
 else
 none)
 else
 y92_4 M g of n x74 x75 (IntKind.wrap .i64 (x76+1)) inner):=yq (by kernel_rfl)
theorem Q1W(M:YM)(l x1:U):y96 M l x1=
 l.len.bind fun k1=>
 y96_1 M x1 l ((k1:Nat):Int) 0 (⟨false,0,[]⟩:Sx):=yq (by kernel_rfl)
theorem W0b(M:YM)(x1 x7:U)(x8 x9:Int)(out:Sx):y96_1 M x1 x7 x8 x9 out=
 (if(decide (x9<x8))=true then
 (x7.idx 1 x9).bind fun v1=>
 (v1.cell 0).bind fun c2=>
 (c2.asI .i64).bind fun n3=>
 x1.asR.bind fun a4=>
 (U.cell a4.1 a4.2).bind fun c5=>
 (c5.idx 1 n3).bind fun v6=>
 (v6.cell 0).bind fun c7=>
 (c7.asI .i64).bind fun n8=>
 (if(!decide (n8=(-1)))=true then
 x1.asR.bind fun a9=>
 (U.cell a9.1 a9.2).bind fun c10=>
 (c10.idx 1 n3).bind fun v11=>
 (v11.cell 0).bind fun c12=>
 (c12.asI .i64).bind fun n13=>
 (Sx.app out 1 ([.c (.int .i64 n13)])).bind fun s14=>
 y96_2 M x1 x7 x8 x9 s14
 else
 y96_2 M x1 x7 x8 x9 out)
 else
 (if scals out.es=true then
 some (.sl out)
 else
 none)):=yq (by kernel_rfl)
theorem j1V(M:YM)(x1 x7:U)(x8 x9:Int)(out:Sx):y96_2 M x1 x7 x8 x9 out=
 y96_1 M x1 x7 x8 (IntKind.wrap .i64 (x9+1)) out:=yq (by kernel_rfl)
theorem Q1X(M:YM)(v:Int):y97 M v=
 some (.val (.c (.int .i64 v))):=yq (by kernel_rfl)
theorem w1u(M:YM)(x y:Int):y110 M x y=
 (y115 M x y).bind fun r1=>
 r1.asTup.bind fun t2=>
 (t2[0]?).bind fun u3=>
 (U.asI .u64 u3).bind fun n4=>
 (t2[1]?).bind fun u5=>
 (U.asI .u64 u5).bind fun n6=>
 some (.tup [.c (.int .u64 n4), .c (.int .u64 n6)]):=yq (by kernel_rfl)
theorem w1v(M:YM)(x y:Int):y115 M x y=
 some (.tup [.c (.int .u64 (IntKind.wrap .u64 ((IntKind.wrap .u64 ((IntKind.wrap .u64 ((shI .shr .u64 x 32)*(shI .shr .u64 y 32)))+(shI .shr .u64 (IntKind.wrap .u64 ((IntKind.wrap .u64 ((shI .shr .u64 x 32)*(bitI .and .u64 y 4294967295)))+(shI .shr .u64 (IntKind.wrap .u64 ((bitI .and .u64 x 4294967295)*(bitI .and .u64 y 4294967295))) 32))) 32)))+(shI .shr .u64 (IntKind.wrap .u64 ((bitI .and .u64 (IntKind.wrap .u64 ((IntKind.wrap .u64 ((shI .shr .u64 x 32)*(bitI .and .u64 y 4294967295)))+(shI .shr .u64 (IntKind.wrap .u64 ((bitI .and .u64 x 4294967295)*(bitI .and .u64 y 4294967295))) 32))) 4294967295)+(IntKind.wrap .u64 ((bitI .and .u64 x 4294967295)*(shI .shr .u64 y 32))))) 32)))), .c (.int .u64 (IntKind.wrap .u64 (x*y)))]):=yq (by kernel_rfl)
end
end Go.Proofs.Ytglkhoamnmiolaa.R
