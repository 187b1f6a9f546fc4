/- - -/
import Derived.Test.YtglkhoamnmiolaaRa
import Derived.Test.YtglkhoamnmiolaaE9
import Derived.KernelRfl
set_option linter.all false
namespace Go.Proofs.Ytglkhoamnmiolaa.R
open Go Go.Proofs.Ytglkhoamnmiolaa.Vm
noncomputable section
abbrev ks0:List K0:=[(.int .i64),(.int .i64),(.int .i64),(.int .i64)]
abbrev ks1:List K0:=[.c, .c]
abbrev ks2:List K0:=[(.int .i64), .c, .c, .c]
structure YM where
 ext:YCallT
def mdt:List (Nat×List RM):=[(3,[.sc]),(4,[.sc]),(5,[.sc]),(6,[.sc]),(7,[.sc]),(8,[.sc]),(9,[.sc]),(10,[.va, .va]),(11,[.va]),(12,[.sc]),(13,[.sc]),(14,[.sc]),(15,[.sc]),(16,[.sc]),(17,[.sc]),(18,[.sc, .sc]),(19,[.va]),(20,[.va, .va]),(21,[.sc]),(22,[.sc, .sc]),(23,[.sc, .sc]),(24,[.va]),(25,[.sc, .sc]),(26,[.va, .va, .va]),(27,[.sc, .sc]),(28,[.va]),(29,[.va, .va]),(30,[.sc]),(31,[.sc]),(32,[.va, .va]),(33,[.va, .va]),(34,[.sc]),(35,[.va]),(36,[.sc]),(37,[.va, .va]),(38,[.sls]),(39,[.sl]),(40,[.va]),(41,[.sc]),(42,[.sc]),(43,[.sc]),(44,[.sls]),(45,[.sc]),(46,[.va]),(47,[.va, .va]),(48,[.sc]),(49,[.sc]),(50,[.sc]),(51,[.sc]),(52,[.sc]),(53,[.sc]),(54,[.sls]),(55,[.sc]),(56,[.sc]),(57,[.sc]),(58,[.sc]),(59,[.sc]),(60,[.sc]),(61,[.sc]),(62,[.va]),(63,[.sc, .sc]),(64,[.va, .va]),(65,[.sc]),(66,[.sls]),(67,[.sc]),(68,[.sc]),(69,[.sc]),(70,[.va, .va]),(71,[.sc]),(72,[.va, .va]),(73,[.va, .va, .va]),(74,[.sc]),(75,[.sc]),(76,[.sc]),(77,[.va, .va]),(78,[.va]),(79,[.sls]),(80,[.sls]),(81,[.sc]),(82,[.va]),(83,[.sls]),(84,[.sc]),(85,[.sls]),(86,[.sc]),(87,[.sc]),(88,[.sls]),(89,[.sls]),(90,[.sc]),(91,[.sc]),(92,[.sls]),(93,[.sls]),(94,[]),(95,[.va]),(96,[.sls]),(97,[.sc]),(98,[.sc]),(99,[.va, .va]),(100,[.sc]),(101,[.sc]),(102,[.sc]),(103,[.sc]),(104,[.sc]),(105,[.va, .va]),(106,[.sc]),(107,[.sc]),(108,[.sc]),(109,[]),(110,[.sc, .sc]),(111,[.sls]),(112,[]),(113,[.va]),(114,[.sc, .sc]),(115,[.sc, .sc]),(116,[.sls]),(117,[.sc])]
def md(f:FuncId):List RM:=(mdt.lookup f).getD []
def youts:List Nat:=[8,16,33,37,40,46,64,72,73,82,94,95,99,109,112]
def yprog(f:FuncId):Option RFunc:=if youts.contains f then none else prog f
def yz(n:Nat)(l:List (Nat×Y)):List Y:=(List.range n).map fun p=>(l.lookup p).getD .poison
def yrunM(M:YM):YRunT:=Vm.yrun M.ext yprog md
def ycall(M:YM)(f:FuncId)(us:List U):YRs:=yrunM M f 0 (us.map .val) []
theorem yq{M:YM}{f:FuncId}{l:Nat}{ys:List Y}{obs:List Ob}{r:YRs}(h:Vm.ystepR M.ext yprog md (Vm.yrun M.ext yprog md) f l ys obs=r):yrunM M f l ys obs=r:=by unfold yrunM;rw[w0w];exact h
def y7(M:YM)(a_0:Int)(a_1 a_2 a_3:U)(b_0:Int)(b_1 b_2 b_3 w_0 w_1:U):YRs:=yrunM M 7 0 ([.val (.st [.c (.int .i64 a_0),a_1,a_2,a_3]), .val (.st [.c (.int .i64 b_0),b_1,b_2,b_3]), .val (.st [w_0,w_1])]) []
def y7_1(M:YM)(a_0:Int)(a_1 a_2 a_3:U)(b_0:Int)(b_1 b_2 b_3 w_0 w_1:U)(x_0:Int)(x_1 x_2 x_3:U)(e y_0:Int)(y_1 y_2 y_3:U)(f:Int):YRs:=yrunM M 7 1 (yz 180 [(3, .loc [.u (.c (.int .i64 a_0)), .u a_1, .u a_2, .u a_3]),(4, .loc [.u (.c (.int .i64 b_0)), .u b_1, .u b_2, .u b_3]),(5, .loc [.u w_0, .u w_1]),(7, .loc [.u (.c (.int .i64 x_0)), .u x_1, .u x_2, .u x_3]),(8, .val (.c (.int .i64 e))),(9, .loc [.u (.c (.int .i64 y_0)), .u y_1, .u y_2, .u y_3]),(10, .val (.c (.int .i64 f)))]) []
def y9(M:YM)(a_0:Int)(a_1 a_2 a_3:U):YRs:=yrunM M 9 0 ([.val (.st [.c (.int .i64 a_0),a_1,a_2,a_3])]) []
def y9_1(M:YM)(a_0:Int)(a_1 a_2 a_3:U)(k:Int):YRs:=yrunM M 9 1 (yz 44 [(1, .loc [.u (.c (.int .i64 a_0)), .u a_1, .u a_2, .u a_3]),(3, .val (.c (.int .i64 k)))]) []
def y11(M:YM)(a_0:Int)(a_1 a_2 a_3:U):YRs:=yrunM M 11 0 ([.val (.st [.c (.int .i64 a_0),a_1,a_2,a_3])]) []
def y12(M:YM)(a_0:Int)(a_1 a_2 a_3:U):YRs:=yrunM M 12 0 ([.val (.st [.c (.int .i64 a_0),a_1,a_2,a_3])]) []
def y15(M:YM)(w_0 w_1:U):YRs:=yrunM M 15 0 ([.val (.st [w_0,w_1])]) []
def y15_1(M:YM)(w_0 w_1:U)(i:Int):YRs:=yrunM M 15 1 (yz 32 [(1, .loc [.u w_0, .u w_1]),(3, .val (.c (.int .i64 i)))]) []
def y25(M:YM)(a_0:Int)(a_1 a_2 a_3:U):YRs:=yrunM M 25 0 ([.val (.st [.c (.int .i64 a_0),a_1,a_2,a_3])]) []
def y25_1(M:YM)(a_0:Int)(a_1 a_2 a_3 x49:U)(x50 x51:Int):YRs:=yrunM M 25 1 (yz 106 [(1, .loc [.u (.c (.int .i64 a_0)), .u a_1, .u a_2, .u a_3]),(49, .val x49),(50, .val (.c (.int .i64 x50))),(51, .val (.c (.int .i64 x51)))]) []
def y25_2(M:YM)(a_0:Int)(a_1 a_2 a_3 x87:U)(x88 x89:Int):YRs:=yrunM M 25 2 (yz 106 [(1, .loc [.u (.c (.int .i64 a_0)), .u a_1, .u a_2, .u a_3]),(87, .val x87),(88, .val (.c (.int .i64 x88))),(89, .val (.c (.int .i64 x89)))]) []
def y27(M:YM)(a_0:Int)(a_1 a_2 a_3:U):YRs:=yrunM M 27 0 ([.val (.st [.c (.int .i64 a_0),a_1,a_2,a_3])]) []
def y27_1(M:YM)(a_0:Int)(a_1 a_2 a_3:U)(i:Int):YRs:=yrunM M 27 1 (yz 111 [(1, .loc [.u (.c (.int .i64 a_0)), .u a_1, .u a_2, .u a_3]),(4, .val (.c (.int .i64 i)))]) []
def y27_2(M:YM)(a_0:Int)(a_1 a_2 a_3:U)(i:Int):YRs:=yrunM M 27 2 (yz 111 [(1, .loc [.u (.c (.int .i64 a_0)), .u a_1, .u a_2, .u a_3]),(6, .val (.c (.int .i64 i)))]) []
def y27_3(M:YM)(a_0:Int)(a_1 a_2 a_3:U)(i:Int):YRs:=yrunM M 27 3 (yz 111 [(1, .loc [.u (.c (.int .i64 a_0)), .u a_1, .u a_2, .u a_3]),(8, .val (.c (.int .i64 i)))]) []
def y27_4(M:YM)(a_0:Int)(a_1 a_2 a_3:U)(i k:Int):YRs:=yrunM M 27 4 (yz 111 [(1, .loc [.u (.c (.int .i64 a_0)), .u a_1, .u a_2, .u a_3]),(8, .val (.c (.int .i64 i))),(9, .val (.c (.int .i64 k)))]) []
def y28(M:YM)(a_0:Int)(a_1 a_2 a_3:U):YRs:=yrunM M 28 0 ([.val (.st [.c (.int .i64 a_0),a_1,a_2,a_3])]) []
def y30(M:YM)(a_0:Int)(a_1 a_2 a_3:U)(b_0:Int)(b_1 b_2 b_3:U):YRs:=yrunM M 30 0 ([.val (.st [.c (.int .i64 a_0),a_1,a_2,a_3]), .val (.st [.c (.int .i64 b_0),b_1,b_2,b_3])]) []
def y30_1(M:YM)(a_0:Int)(a_1 a_2 a_3:U)(b_0:Int)(b_1 b_2 b_3:U)(i:Int):YRs:=yrunM M 30 1 (yz 54 [(2, .loc [.u (.c (.int .i64 a_0)), .u a_1, .u a_2, .u a_3]),(3, .loc [.u (.c (.int .i64 b_0)), .u b_1, .u b_2, .u b_3]),(5, .val (.c (.int .i64 i)))]) []
def y31(M:YM)(a b:U):YRs:=yrunM M 31 0 ([.val a, .val b]) []
def y31_1(M:YM)(a b:U)(i:Int):YRs:=yrunM M 31 1 (yz 26 [(0, .val a),(1, .val b),(5, .val (.c (.int .i64 i)))]) []
def y32(M:YM)(a_0:Int)(a_1 a_2 a_3:U)(b_0:Int)(b_1 b_2 b_3:U):YRs:=yrunM M 32 0 ([.val (.st [.c (.int .i64 a_0),a_1,a_2,a_3]), .val (.st [.c (.int .i64 b_0),b_1,b_2,b_3])]) []
def y32_1(M:YM)(a_0:Int)(a_1 a_2 a_3 b:U)(x4_0:Int)(pair:U)(out_0:Int)(x55:U)(x56 x57:Int)(x4_1 x4_2 x4_3 out_1 out_2 out_3:Sx):YRs:=yrunM M 32 1 (yz 198 [(2, .loc [.u (.c (.int .i64 a_0)), .u a_1, .u a_2, .u a_3]),(3, .val b),(4, .loc [.u (.c (.int .i64 x4_0)), .h 10000, .h 10001, .h 10002]),(7, .val pair),(8, .loc [.u (.c (.int .i64 out_0)), .h 10003, .h 10004, .h 10005]),(55, .val x55),(56, .val (.c (.int .i64 x56))),(57, .val (.c (.int .i64 x57)))]) [.sl x4_1, .sl x4_2, .sl x4_3, .sl out_1, .sl out_2, .sl out_3]
def y32_2(M:YM)(a_0:Int)(a_1 a_2 a_3 b:U)(x4_0:Int)(pair:U)(out_0 s:Int)(x55:U)(x56 x57:Int)(x62:U)(x63 x64:Int)(x4_1 x4_2 x4_3 out_1 out_2 out_3:Sx):YRs:=yrunM M 32 2 (yz 198 [(2, .loc [.u (.c (.int .i64 a_0)), .u a_1, .u a_2, .u a_3]),(3, .val b),(4, .loc [.u (.c (.int .i64 x4_0)), .h 10000, .h 10001, .h 10002]),(7, .val pair),(8, .loc [.u (.c (.int .i64 out_0)), .h 10003, .h 10004, .h 10005]),(10, .val (.c (.int .i64 s))),(55, .val x55),(56, .val (.c (.int .i64 x56))),(57, .val (.c (.int .i64 x57))),(62, .val x62),(63, .val (.c (.int .i64 x63))),(64, .val (.c (.int .i64 x64)))]) [.sl x4_1, .sl x4_2, .sl x4_3, .sl out_1, .sl out_2, .sl out_3]
def y32_3(M:YM)(a_0:Int)(a_1 a_2 a_3 b:U)(x4_0:Int)(pair:U)(out_0:Int)(x80:U)(x81 x82:Int)(x4_1 x4_2 x4_3 out_1 out_2 out_3:Sx):YRs:=yrunM M 32 3 (yz 198 [(2, .loc [.u (.c (.int .i64 a_0)), .u a_1, .u a_2, .u a_3]),(3, .val b),(4, .loc [.u (.c (.int .i64 x4_0)), .h 10000, .h 10001, .h 10002]),(7, .val pair),(8, .loc [.u (.c (.int .i64 out_0)), .h 10003, .h 10004, .h 10005]),(80, .val x80),(81, .val (.c (.int .i64 x81))),(82, .val (.c (.int .i64 x82)))]) [.sl x4_1, .sl x4_2, .sl x4_3, .sl out_1, .sl out_2, .sl out_3]
def y32_4(M:YM)(a_0:Int)(a_1 a_2 a_3 b:U)(x4_0:Int)(pair:U)(out_0 x_0 x_1 x_2 x_3:Int)(x80:U)(x81 x82:Int)(x87:U)(x88 x89:Int)(x4_1 x4_2 x4_3 out_1 out_2 out_3:Sx):YRs:=yrunM M 32 4 (yz 198 [(2, .loc [.u (.c (.int .i64 a_0)), .u a_1, .u a_2, .u a_3]),(3, .val b),(4, .loc [.u (.c (.int .i64 x4_0)), .h 10000, .h 10001, .h 10002]),(7, .val pair),(8, .loc [.u (.c (.int .i64 out_0)), .h 10003, .h 10004, .h 10005]),(14, .loc [.u (.c (.int .i64 x_0)), .u (.c (.int .i64 x_1)), .u (.c (.int .i64 x_2)), .u (.c (.int .i64 x_3))]),(80, .val x80),(81, .val (.c (.int .i64 x81))),(82, .val (.c (.int .i64 x82))),(87, .val x87),(88, .val (.c (.int .i64 x88))),(89, .val (.c (.int .i64 x89)))]) [.sl x4_1, .sl x4_2, .sl x4_3, .sl out_1, .sl out_2, .sl out_3]
def y32_6(M:YM)(a_0:Int)(a_1 a_2 a_3 b:U)(x4_0:Int)(pair:U)(out_0:Int)(x127:U)(x128 x129:Int)(x4_1 x4_2 x4_3 out_1 out_2 out_3:Sx):YRs:=yrunM M 32 6 (yz 198 [(2, .loc [.u (.c (.int .i64 a_0)), .u a_1, .u a_2, .u a_3]),(3, .val b),(4, .loc [.u (.c (.int .i64 x4_0)), .h 10000, .h 10001, .h 10002]),(7, .val pair),(8, .loc [.u (.c (.int .i64 out_0)), .h 10003, .h 10004, .h 10005]),(127, .val x127),(128, .val (.c (.int .i64 x128))),(129, .val (.c (.int .i64 x129)))]) [.sl x4_1, .sl x4_2, .sl x4_3, .sl out_1, .sl out_2, .sl out_3]
def y32_5(M:YM)(a_0:Int)(a_1 a_2 a_3 b:U)(x4_0:Int)(pair:U)(out_0 x_0 x_1 x_2 x_3:Int)(x80:U)(x81 x82:Int)(x87:U)(x88 x89:Int)(x4_1 x4_2 x4_3 out_1 out_2 out_3:Sx):YRs:=yrunM M 32 5 (yz 198 [(2, .loc [.u (.c (.int .i64 a_0)), .u a_1, .u a_2, .u a_3]),(3, .val b),(4, .loc [.u (.c (.int .i64 x4_0)), .h 10000, .h 10001, .h 10002]),(7, .val pair),(8, .loc [.u (.c (.int .i64 out_0)), .h 10003, .h 10004, .h 10005]),(14, .loc [.u (.c (.int .i64 x_0)), .u (.c (.int .i64 x_1)), .u (.c (.int .i64 x_2)), .u (.c (.int .i64 x_3))]),(80, .val x80),(81, .val (.c (.int .i64 x81))),(82, .val (.c (.int .i64 x82))),(87, .val x87),(88, .val (.c (.int .i64 x88))),(89, .val (.c (.int .i64 x89)))]) [.sl x4_1, .sl x4_2, .sl x4_3, .sl out_1, .sl out_2, .sl out_3]
def y32_7(M:YM)(a_0:Int)(a_1 a_2 a_3 b:U)(x4_0:Int)(pair:U)(out_0:Int)(x127:U)(x128 x129:Int)(x133:U)(x134 x135:Int)(x4_1 x4_2 x4_3 out_1 out_2 out_3 vset:Sx):YRs:=yrunM M 32 7 (yz 198 [(2, .loc [.u (.c (.int .i64 a_0)), .u a_1, .u a_2, .u a_3]),(3, .val b),(4, .loc [.u (.c (.int .i64 x4_0)), .h 10000, .h 10001, .h 10002]),(7, .val pair),(8, .loc [.u (.c (.int .i64 out_0)), .h 10003, .h 10004, .h 10005]),(20, .h 10006),(127, .val x127),(128, .val (.c (.int .i64 x128))),(129, .val (.c (.int .i64 x129))),(133, .val x133),(134, .val (.c (.int .i64 x134))),(135, .val (.c (.int .i64 x135)))]) [.sl x4_1, .sl x4_2, .sl x4_3, .sl out_1, .sl out_2, .sl out_3, .sl vset]
def y32_9(M:YM)(a_0:Int)(a_1 a_2 a_3:U)(x4_0:Int)(pair:U)(out_0:Int)(x161:U)(x162 x163:Int)(x4_1 x4_2 x4_3 out_1 out_2 out_3:Sx):YRs:=yrunM M 32 9 (yz 198 [(2, .loc [.u (.c (.int .i64 a_0)), .u a_1, .u a_2, .u a_3]),(4, .loc [.u (.c (.int .i64 x4_0)), .h 10000, .h 10001, .h 10002]),(7, .val pair),(8, .loc [.u (.c (.int .i64 out_0)), .h 10003, .h 10004, .h 10005]),(161, .val x161),(162, .val (.c (.int .i64 x162))),(163, .val (.c (.int .i64 x163)))]) [.sl x4_1, .sl x4_2, .sl x4_3, .sl out_1, .sl out_2, .sl out_3]
def y32_8(M:YM)(a_0:Int)(a_1 a_2 a_3 b:U)(x4_0:Int)(pair:U)(out_0 s:Int)(x127:U)(x128 x129:Int)(x133:U)(x134 x135 x140 x141:Int)(x4_1 x4_2 x4_3 out_1 out_2 out_3 vset:Sx):YRs:=yrunM M 32 8 (yz 198 [(2, .loc [.u (.c (.int .i64 a_0)), .u a_1, .u a_2, .u a_3]),(3, .val b),(4, .loc [.u (.c (.int .i64 x4_0)), .h 10000, .h 10001, .h 10002]),(7, .val pair),(8, .loc [.u (.c (.int .i64 out_0)), .h 10003, .h 10004, .h 10005]),(20, .h 10006),(22, .val (.c (.int .i64 s))),(127, .val x127),(128, .val (.c (.int .i64 x128))),(129, .val (.c (.int .i64 x129))),(133, .val x133),(134, .val (.c (.int .i64 x134))),(135, .val (.c (.int .i64 x135))),(140, .val (.c (.int .i64 x140))),(141, .val (.c (.int .i64 x141)))]) [.sl x4_1, .sl x4_2, .sl x4_3, .sl out_1, .sl out_2, .sl out_3, .sl vset]
def y32_10(M:YM)(a_0:Int)(a_1 a_2 a_3:U)(x4_0:Int)(pair:U)(out_0:Int)(l x161:U)(x162 x163 x168 x169:Int)(x4_1 x4_2 x4_3 out_1 out_2 out_3 vset:Sx):YRs:=yrunM M 32 10 (yz 198 [(2, .loc [.u (.c (.int .i64 a_0)), .u a_1, .u a_2, .u a_3]),(4, .loc [.u (.c (.int .i64 x4_0)), .h 10000, .h 10001, .h 10002]),(7, .val pair),(8, .loc [.u (.c (.int .i64 out_0)), .h 10003, .h 10004, .h 10005]),(25, .val l),(26, .h 10006),(161, .val x161),(162, .val (.c (.int .i64 x162))),(163, .val (.c (.int .i64 x163))),(168, .val (.c (.int .i64 x168))),(169, .val (.c (.int .i64 x169)))]) [.sl x4_1, .sl x4_2, .sl x4_3, .sl out_1, .sl out_2, .sl out_3, .sl vset]
def y32_11(M:YM)(a_0:Int)(a_1 a_2 a_3:U)(x4_0:Int)(pair:U)(out_0:Int)(l:U)(s:Int)(x161:U)(x162 x163 x168 x169:Int)(x172:U)(x173 x174:Int)(x4_1 x4_2 x4_3 out_1 out_2 out_3 vset:Sx):YRs:=yrunM M 32 11 (yz 198 [(2, .loc [.u (.c (.int .i64 a_0)), .u a_1, .u a_2, .u a_3]),(4, .loc [.u (.c (.int .i64 x4_0)), .h 10000, .h 10001, .h 10002]),(7, .val pair),(8, .loc [.u (.c (.int .i64 out_0)), .h 10003, .h 10004, .h 10005]),(25, .val l),(26, .h 10006),(27, .val (.c (.int .i64 s))),(161, .val x161),(162, .val (.c (.int .i64 x162))),(163, .val (.c (.int .i64 x163))),(168, .val (.c (.int .i64 x168))),(169, .val (.c (.int .i64 x169))),(172, .val x172),(173, .val (.c (.int .i64 x173))),(174, .val (.c (.int .i64 x174)))]) [.sl x4_1, .sl x4_2, .sl x4_3, .sl out_1, .sl out_2, .sl out_3, .sl vset]
def y34(M:YM)(a_0:Int)(a_1 a_2 a_3:U):YRs:=yrunM M 34 0 ([.val (.st [.c (.int .i64 a_0),a_1,a_2,a_3])]) []
def y36(M:YM)(a_0:Int)(a_1 a_2 a_3:U):YRs:=yrunM M 36 0 ([.val (.st [.c (.int .i64 a_0),a_1,a_2,a_3])]) []
def y38(M:YM)(l:U):YRs:=yrunM M 38 0 ([.val l]) []
def y39(M:YM)(l:U):YRs:=yrunM M 39 0 ([.val l]) []
def y39_1(M:YM)(l:U)(i:Int)(out:Sx):YRs:=yrunM M 39 1 (yz 20 [(0, .val l),(3, .h 10000),(4, .val (.c (.int .i64 i)))]) [.sl out]
def y41(M:YM)(n low high:Int):YRs:=yrunM M 41 0 ([.val (.c (.int .i64 n)), .val (.c (.int .i64 low)), .val (.c (.int .i64 high))]) []
def y42(M:YM)(w_0 w_1:U)(vat:Int):YRs:=yrunM M 42 0 ([.val (.st [w_0,w_1]), .val (.c (.int .i64 vat))]) []
def y43(M:YM)(x_0 x_1 x_2 x_3 letter:Int):YRs:=yrunM M 43 0 ([.val (.st [.c (.int .i64 x_0), .c (.int .i64 x_1), .c (.int .i64 x_2), .c (.int .i64 x_3)]), .val (.c (.int .i64 letter))]) []
def y43_1(M:YM)(letter x_0 x_1 x_2 x_3 i:Int):YRs:=yrunM M 43 1 (yz 31 [(1, .val (.c (.int .i64 letter))),(2, .loc [.u (.c (.int .i64 x_0)), .u (.c (.int .i64 x_1)), .u (.c (.int .i64 x_2)), .u (.c (.int .i64 x_3))]),(5, .val (.c (.int .i64 i)))]) []
def y44(M:YM)(next sets:U):YRs:=yrunM M 44 0 ([.val next, .val sets]) []
def y44_1(M:YM)(next sets:U)(i:Int)(vin:Sx):YRs:=yrunM M 44 1 (yz 70 [(0, .val next),(1, .val sets),(5, .h 10000),(6, .val (.c (.int .i64 i)))]) [.sl vin]
def y44_2(M:YM)(before:U)(vin all:Sx):YRs:=yrunM M 44 2 (yz 70 [(5, .h 10000),(7, .val before),(8, .h 10001)]) [.sl vin, .sl all]
def y44_2b(M:YM)(before all:U)(vin:Sx):YRs:=yrunM M 44 2 (yz 70 [(5, .h 10000),(7, .val before),(8, .val all)]) [.sl vin]
def y44_3(M:YM)(before:U)(changed:Bool)(vin all:Sx):YRs:=yrunM M 44 3 (yz 70 [(5, .h 10000),(7, .val before),(8, .h 10001),(9, .val (.c (.bool changed)))]) [.sl vin, .sl all]
def y44_3b(M:YM)(before all:U)(changed:Bool)(vin:Sx):YRs:=yrunM M 44 3 (yz 70 [(5, .h 10000),(7, .val before),(8, .val all),(9, .val (.c (.bool changed)))]) [.sl vin]
def y44_4(M:YM)(before:U)(changed:Bool)(k:Int)(vin all:Sx):YRs:=yrunM M 44 4 (yz 70 [(5, .h 10000),(7, .val before),(8, .h 10001),(9, .val (.c (.bool changed))),(10, .val (.c (.int .i64 k)))]) [.sl vin, .sl all]
def y44_4b(M:YM)(before all:U)(changed:Bool)(k:Int)(vin:Sx):YRs:=yrunM M 44 4 (yz 70 [(5, .h 10000),(7, .val before),(8, .val all),(9, .val (.c (.bool changed))),(10, .val (.c (.int .i64 k)))]) [.sl vin]
def y44_5(M:YM)(before:U)(changed:Bool)(k i:Int)(vin all now:Sx):YRs:=yrunM M 44 5 (yz 70 [(5, .h 10000),(7, .val before),(8, .h 10001),(9, .val (.c (.bool changed))),(10, .val (.c (.int .i64 k))),(11, .h 10002),(12, .val (.c (.int .i64 i)))]) [.sl vin, .sl all, .sl now]
def y44_5b(M:YM)(before all:U)(changed:Bool)(k i:Int)(vin now:Sx):YRs:=yrunM M 44 5 (yz 70 [(5, .h 10000),(7, .val before),(8, .val all),(9, .val (.c (.bool changed))),(10, .val (.c (.int .i64 k))),(11, .h 10001),(12, .val (.c (.int .i64 i)))]) [.sl vin, .sl now]
def y44_6(M:YM)(before:U)(changed:Bool)(k i:Int)(vin all now:Sx):YRs:=yrunM M 44 6 (yz 70 [(5, .h 10000),(7, .val before),(8, .h 10001),(9, .val (.c (.bool changed))),(10, .val (.c (.int .i64 k))),(11, .h 10002),(12, .val (.c (.int .i64 i)))]) [.sl vin, .sl all, .sl now]
def y44_6b(M:YM)(before all:U)(changed:Bool)(k i:Int)(vin now:Sx):YRs:=yrunM M 44 6 (yz 70 [(5, .h 10000),(7, .val before),(8, .val all),(9, .val (.c (.bool changed))),(10, .val (.c (.int .i64 k))),(11, .h 10001),(12, .val (.c (.int .i64 i)))]) [.sl vin, .sl now]
def y52(M:YM)(vals:U):YRs:=yrunM M 52 0 ([.val vals]) []
def y52_1(M:YM)(zero:Int)(x6:U)(x7 x8:Int):YRs:=yrunM M 52 1 (yz 18 [(3, .val (.c (.int .i64 zero))),(6, .val x6),(7, .val (.c (.int .i64 x7))),(8, .val (.c (.int .i64 x8)))]) []
def y53(M:YM)(is:Bool)(code:Int):YRs:=yrunM M 53 0 ([.val (.c (.bool is)), .val (.c (.int .i64 code))]) []
def y55(M:YM)(n vfrom to:Int):YRs:=yrunM M 55 0 ([.val (.c (.int .i64 n)), .val (.c (.int .i64 vfrom)), .val (.c (.int .i64 to))]) []
def y56(M:YM)(s:U)(v:Int):YRs:=yrunM M 56 0 ([.val s, .val (.c (.int .i64 v))]) []
def y63(M:YM)(l:U)(states:Int):YRs:=yrunM M 63 0 ([.val l, .val (.c (.int .i64 states))]) []
def y63_1(M:YM)(l:U)(states:Int)(x9:U)(x10 x11:Int):YRs:=yrunM M 63 1 (yz 42 [(0, .val l),(1, .val (.c (.int .i64 states))),(9, .val x9),(10, .val (.c (.int .i64 x10))),(11, .val (.c (.int .i64 x11)))]) []
def y65(M:YM)(a_0:Int)(a_1 a_2 a_3 l:U)(i:Int):YRs:=yrunM M 65 0 ([.val (.st [.c (.int .i64 a_0),a_1,a_2,a_3]), .val l, .val (.c (.int .i64 i))]) []
def y67(M:YM)(a b:U):YRs:=yrunM M 67 0 ([.val a, .val b]) []
def y67_1(M:YM)(a b:U)(i:Int):YRs:=yrunM M 67 1 (yz 27 [(0, .val a),(1, .val b),(5, .val (.c (.int .i64 i)))]) []
def y68(M:YM)(s t:Int)(x2:U):YRs:=yrunM M 68 0 ([.val (.c (.int .i64 s)), .val (.c (.int .i64 t)), .val x2]) []
def y69(M:YM)(x_0 x_1 x_2 x_3:Int):YRs:=yrunM M 69 0 ([.val (.st [.c (.int .i64 x_0), .c (.int .i64 x_1), .c (.int .i64 x_2), .c (.int .i64 x_3)])]) []
def y70(M:YM)(a_0:Int)(a_1 a_2 a_3:U):YRs:=yrunM M 70 0 ([.val (.st [.c (.int .i64 a_0),a_1,a_2,a_3])]) []
def y71(M:YM)(s level:Int)(x2:U):YRs:=yrunM M 71 0 ([.val (.c (.int .i64 s)), .val (.c (.int .i64 level)), .val x2]) []
def y81(M:YM)(letter atom:Int):YRs:=yrunM M 81 0 ([.val (.c (.int .i64 letter)), .val (.c (.int .i64 atom))]) []
def y83(M:YM)(before vin vset:U):YRs:=yrunM M 83 0 ([.val before, .val vin, .val vset]) []
def y83_1(M:YM)(before vin vset:U)(i:Int)(out vopen:Sx):YRs:=yrunM M 83 1 (yz 85 [(0, .val before),(1, .val vin),(2, .val vset),(7, .h 10000),(8, .h 10001),(9, .val (.c (.int .i64 i)))]) [.sl out, .sl vopen]
def y83_2(M:YM)(before vin vset:U)(i:Int)(out vopen:Sx):YRs:=yrunM M 83 2 (yz 85 [(0, .val before),(1, .val vin),(2, .val vset),(7, .h 10000),(8, .h 10001),(9, .val (.c (.int .i64 i)))]) [.sl out, .sl vopen]
def y83_3(M:YM)(before vin:U)(out vopen:Sx):YRs:=yrunM M 83 3 (yz 85 [(0, .val before),(1, .val vin),(7, .h 10000),(8, .h 10001)]) [.sl out, .sl vopen]
def y83_4(M:YM)(before vin:U)(x k:Int)(out vopen:Sx):YRs:=yrunM M 83 4 (yz 85 [(0, .val before),(1, .val vin),(7, .h 10000),(8, .h 10001),(10, .val (.c (.int .i64 x))),(11, .val (.c (.int .i64 k)))]) [.sl out, .sl vopen]
def y83_5(M:YM)(before vin:U)(x k:Int)(out vopen:Sx):YRs:=yrunM M 83 5 (yz 85 [(0, .val before),(1, .val vin),(7, .h 10000),(8, .h 10001),(10, .val (.c (.int .i64 x))),(11, .val (.c (.int .i64 k)))]) [.sl out, .sl vopen]
def y90(M:YM)(s:U)(v:Int):YRs:=yrunM M 90 0 ([.val s, .val (.c (.int .i64 v))]) []
def y90_1(M:YM)(s:U)(v x7 x8:Int):YRs:=yrunM M 90 1 (yz 19 [(0, .val s),(1, .val (.c (.int .i64 v))),(7, .val (.c (.int .i64 x7))),(8, .val (.c (.int .i64 x8)))]) []
def y8(M:YM):YRs:=yrunM M 8 0 [] []
def y16(M:YM)(a_0:Int)(a_1 a_2 a_3 w_0 w_1:U):YRs:=yrunM M 16 0 [.val (.st [.c (.int .i64 a_0),a_1,a_2,a_3]), .val (.st [w_0,w_1])] []
def y33(M:YM)(a_0:Int)(a_1 a_2 a_3:U):YRs:=yrunM M 33 0 [.val (.st [.c (.int .i64 a_0),a_1,a_2,a_3])] []
def y82(M:YM)(next:U):YRs:=yrunM M 82 0 [.val next] []
theorem Q1B(M:YM)(a_0:Int)(a_1 a_2 a_3:U)(b_0:Int)(b_1 b_2 b_3 w_0 w_1:U):y7 M a_0 a_1 a_2 a_3 b_0 b_1 b_2 b_3 w_0 w_1=
 (y8 M).bind fun r1=>
 r1.toU.bind fun u2=>
 u2.asB.bind fun b3=>
 (if(!b3)=true then
 some (.val (.c (.bool false)))
 else
 (y9 M a_0 a_1 a_2 a_3).bind fun r4=>
 r4.toU.bind fun u5=>
 u5.asB.bind fun b6=>
 (if(!b6)=false then
 (y9 M b_0 b_1 b_2 b_3).bind fun r7=>
 r7.toU.bind fun u8=>
 u8.asB.bind fun b9=>
 some (!b9)
 else
 some (!b6)).bind fun q10=>
 (if q10=false then
 w_0.len.bind fun k11=>
 w_1.len.bind fun k12=>
 some (decide (8<(IntKind.wrap .i64 (((k11:Nat):Int)+((k12:Nat):Int)))))
 else
 some q10).bind fun q13=>
 (if q13=true then
 some (.val (.c (.bool true)))
 else
 (y11 M a_0 a_1 a_2 a_3).bind fun r14=>
 r14.toU.bind fun u15=>
 (u15.exact ks2).bind fun f16=>
 (y11 M b_0 b_1 b_2 b_3).bind fun r17=>
 r17.toU.bind fun u18=>
 (u18.exact ks2).bind fun f19=>
 (y32 M ((f16 0).i) (f16 1) (f16 2) (f16 3) ((f19 0).i) (f19 1) (f19 2) (f19 3)).bind fun r20=>
 r20.asTup.bind fun t21=>
 (t21[0]?).bind fun u22=>
 (u22.exact ks2).bind fun f23=>
 (t21[1]?).bind fun u24=>
 (u24.asI .i64).bind fun n25=>
 (y11 M a_0 a_1 a_2 a_3).bind fun r26=>
 r26.toU.bind fun u27=>
 (u27.exact ks2).bind fun f28=>
 (y33 M ((f28 0).i) (f28 1) (f28 2) (f28 3)).bind fun r29=>
 r29.asTup.bind fun t30=>
 (t30[0]?).bind fun u31=>
 (u31.exact ks2).bind fun f32=>
 (t30[1]?).bind fun u33=>
 (u33.asI .i64).bind fun n34=>
 (y12 M a_0 a_1 a_2 a_3).bind fun r35=>
 r35.toU.bind fun u36=>
 (u36.asI .i64).bind fun n37=>
 (if(!decide (n37=0))=true then
 (if(decide (n25=n37))=true then
 (y28 M ((f23 0).i) (f23 1) (f23 2) (f23 3)).bind fun r38=>
 r38.toU.bind fun u39=>
 u39.asB.bind fun b40=>
 some b40
 else
 some (decide (n25=n37))).bind fun q41=>
 (if q41=true then
 some (decide (n34=n37))
 else
 some q41).bind fun q42=>
 (if q42=true then
 (y28 M ((f32 0).i) (f32 1) (f32 2) (f32 3)).bind fun r43=>
 r43.toU.bind fun u44=>
 u44.asB.bind fun b45=>
 some b45
 else
 some q42).bind fun q46=>
 some (.val (.c (.bool q46)))
 else
 (if(decide (n34=2))=true then
 a_3.len.bind fun k47=>
 (if(decide ((IntKind.wrap .i64 (a_0*(IntKind.wrap .i64 (((k47:Nat):Int)+1))))<=300))=true then
 a_2.len.bind fun k48=>
 some (decide (((k48:Nat):Int)<=40))
 else
 some (decide ((IntKind.wrap .i64 (a_0*(IntKind.wrap .i64 (((k47:Nat):Int)+1))))<=300))).bind fun q49=>
 (if q49=false then
 (y28 M ((f32 0).i) (f32 1) (f32 2) (f32 3)).bind fun r50=>
 r50.toU.bind fun u51=>
 u51.asB.bind fun b52=>
 some (!b52)
 else
 some q49).bind fun q53=>
 (if q53=true then
 some (.val (.c (.bool false)))
 else
 y7_1 M a_0 a_1 a_2 a_3 b_0 b_1 b_2 b_3 w_0 w_1 ((f23 0).i) (f23 1) (f23 2) (f23 3) n25 ((f32 0).i) (f32 1) (f32 2) (f32 3) n34)
 else
 (if(!decide (n34=0))=false then
 (y34 M ((f32 0).i) (f32 1) (f32 2) (f32 3)).bind fun r54=>
 r54.toU.bind fun u55=>
 u55.asB.bind fun b56=>
 some (!b56)
 else
 some (!decide (n34=0))).bind fun q57=>
 (if q57=false then
 (U.len (f32 3)).bind fun k58=>
 some (!decide (((k58:Nat):Int)=1))
 else
 some q57).bind fun q59=>
 (if q59=true then
 some (.val (.c (.bool false)))
 else
 y7_1 M a_0 a_1 a_2 a_3 b_0 b_1 b_2 b_3 w_0 w_1 ((f23 0).i) (f23 1) (f23 2) (f23 3) n25 ((f32 0).i) (f32 1) (f32 2) (f32 3) n34))))):=yq (by kernel_rfl)
theorem z1X(M:YM)(a_0:Int)(a_1 a_2 a_3:U)(b_0:Int)(b_1 b_2 b_3 w_0 w_1:U)(x_0:Int)(x_1 x_2 x_3:U)(e y_0:Int)(y_1 y_2 y_3:U)(f:Int):y7_1 M a_0 a_1 a_2 a_3 b_0 b_1 b_2 b_3 w_0 w_1 x_0 x_1 x_2 x_3 e y_0 y_1 y_2 y_3 f=
 (y12 M b_0 b_1 b_2 b_3).bind fun r1=>
 r1.toU.bind fun u2=>
 (u2.asI .i64).bind fun n3=>
 (if(!decide (n3=0))=true then
 (if(decide (e=n3))=true then
 (y28 M x_0 x_1 x_2 x_3).bind fun r4=>
 r4.toU.bind fun u5=>
 u5.asB.bind fun b6=>
 some b6
 else
 some (decide (e=n3))).bind fun q7=>
 some (.val (.c (.bool q7)))
 else
 (if(decide (e=2))=true then
 (if(decide (300<(IntKind.wrap .i64 (a_0*b_0))))=false then
 a_2.len.bind fun k8=>
 some (decide (40<((k8:Nat):Int)))
 else
 some (decide (300<(IntKind.wrap .i64 (a_0*b_0))))).bind fun q9=>
 (if q9=false then
 b_2.len.bind fun k10=>
 some (decide (40<((k10:Nat):Int)))
 else
 some q9).bind fun q11=>
 (if q11=false then
 a_3.len.bind fun k12=>
 b_3.len.bind fun k13=>
 some (decide (8<(IntKind.wrap .i64 (((k12:Nat):Int)+((k13:Nat):Int)))))
 else
 some q11).bind fun q14=>
 (if q14=true then
 (y28 M x_0 x_1 x_2 x_3).bind fun r15=>
 r15.toU.bind fun u16=>
 u16.asB.bind fun b17=>
 some b17
 else
 some q14).bind fun q18=>
 some (.val (.c (.bool q18)))
 else
 (if(!decide (e=0))=false then
 (y34 M x_0 x_1 x_2 x_3).bind fun r19=>
 r19.toU.bind fun u20=>
 u20.asB.bind fun b21=>
 some (!b21)
 else
 some (!decide (e=0))).bind fun q22=>
 (if q22=true then
 some (.val (.c (.bool false)))
 else
 (y15 M w_0 w_1).bind fun r23=>
 r23.toU.bind fun u24=>
 (u24.asI .i64).bind fun n25=>
 (if(!decide (n25=0))=true then
 some (.val (.c (.bool true)))
 else
 (y16 M a_0 a_1 a_2 a_3 w_0 w_1).bind fun r26=>
 r26.toU.bind fun u27=>
 u27.asB.bind fun b28=>
 (y16 M x_0 x_1 x_2 x_3 w_0 w_1).bind fun r29=>
 r29.toU.bind fun u30=>
 u30.asB.bind fun b31=>
 (if b28=true then
 (y16 M b_0 b_1 b_2 b_3 w_0 w_1).bind fun r32=>
 r32.toU.bind fun u33=>
 u33.asB.bind fun b34=>
 some b34
 else
 some b28).bind fun q35=>
 (if((b31==q35)!=false)=true then
 (if(!decide (f=0))=false then
 (y16 M y_0 y_1 y_2 y_3 w_0 w_1).bind fun r36=>
 r36.toU.bind fun u37=>
 u37.asB.bind fun b38=>
 some ((b38==b28)!=false)
 else
 some (!decide (f=0))).bind fun q39=>
 some q39
 else
 some ((b31==q35)!=false)).bind fun q40=>
 some (.val (.c (.bool q40))))))):=yq (by kernel_rfl)
theorem Q1C(M:YM)(a_0:Int)(a_1 a_2 a_3:U):y9 M a_0 a_1 a_2 a_3=
 (if(decide (30<a_0))=true then
 some (decide (a_0<=300))
 else
 some (decide (30<a_0))).bind fun q1=>
 (if q1=false then
 a_2.len.bind fun k2=>
 some (decide (60<((k2:Nat):Int)))
 else
 some q1).bind fun q3=>
 (if q3=false then
 a_1.len.bind fun k4=>
 some (decide (40<((k4:Nat):Int)))
 else
 some q3).bind fun q5=>
 (if q5=false then
 a_3.len.bind fun k6=>
 some (decide (12<((k6:Nat):Int)))
 else
 some q5).bind fun q7=>
 (if q7=true then
 some (.val (.c (.bool false)))
 else
 y9_1 M a_0 a_1 a_2 a_3 0):=yq (by kernel_rfl)
theorem X0x(M:YM)(a_0:Int)(a_1 a_2 a_3:U)(k:Int):y9_1 M a_0 a_1 a_2 a_3 k=
 a_3.len.bind fun k1=>
 (if(decide (k<((k1:Nat):Int)))=true then
 (a_3.idx 1 k).bind fun v2=>
 (v2.cell 0).bind fun c3=>
 c3.len.bind fun k4=>
 (if(decide (40<((k4:Nat):Int)))=true then
 some (.val (.c (.bool false)))
 else
 y9_1 M a_0 a_1 a_2 a_3 (IntKind.wrap .i64 (k+1)))
 else
 some (.val (.c (.bool true)))):=yq (by kernel_rfl)
theorem k1W(M:YM)(a_0:Int)(a_1 a_2 a_3:U):y11 M a_0 a_1 a_2 a_3=
 (y38 M a_1).bind fun r1=>
 r1.asSl.bind fun s2=>
 (U.asL a_2).bind fun l3=>
 (Sx.app (⟨true,4,[]⟩:Sx) 4 l3.2).bind fun s4=>
 (y39 M a_3).bind fun r5=>
 r5.asSl.bind fun s6=>
 some (.val (.st [.c (.int .i64 a_0),Sx.fz s2,Sx.fz s4,Sx.fz s6])):=yq (by kernel_rfl)
theorem k1X(M:YM)(a_0:Int)(a_1 a_2 a_3:U):y12 M a_0 a_1 a_2 a_3=
 (y27 M a_0 a_1 a_2 a_3).bind fun r1=>
 r1.asTup.bind fun t2=>
 (t2[0]?).bind fun u3=>
 (u3.asI .i64).bind fun n4=>
 (t2[1]?).bind fun u5=>
 (u5.asI .i64).bind fun n6=>
 some (.val (.c (.int .i64 n6))):=yq (by kernel_rfl)
theorem k1Y(M:YM)(w_0 w_1:U):y15 M w_0 w_1=
 w_1.len.bind fun k1=>
 (if(decide (((k1:Nat):Int)=0))=true then
 some (.val (.c (.int .i64 1)))
 else
 w_0.len.bind fun k2=>
 w_1.len.bind fun k3=>
 (if(decide (60<(IntKind.wrap .i64 (((k2:Nat):Int)+((k3:Nat):Int)))))=true then
 some (.val (.c (.int .i64 2)))
 else
 y15_1 M w_0 w_1 0)):=yq (by kernel_rfl)
theorem Z0O(M:YM)(w_0 w_1:U)(i:Int):y15_1 M w_0 w_1 i=
 w_0.len.bind fun k1=>
 w_1.len.bind fun k2=>
 (if(decide (i<(IntKind.wrap .i64 (((k1:Nat):Int)+((k2:Nat):Int)))))=true then
 (y42 M w_0 w_1 i).bind fun r3=>
 r3.toU.bind fun u4=>
 (u4.asI .i64).bind fun n5=>
 (y41 M n5 0 4095).bind fun r6=>
 r6.toU.bind fun u7=>
 u7.asB.bind fun b8=>
 (if(!b8)=true then
 some (.val (.c (.int .i64 3)))
 else
 y15_1 M w_0 w_1 (IntKind.wrap .i64 (i+1)))
 else
 some (.val (.c (.int .i64 0)))):=yq (by kernel_rfl)
theorem k1Z(M:YM)(a_0:Int)(a_1 a_2 a_3:U):y25 M a_0 a_1 a_2 a_3=
 a_2.len.bind fun k1=>
 (if(decide (6000<((k1:Nat):Int)))=false then
 a_3.len.bind fun k2=>
 some (decide (8<((k2:Nat):Int)))
 else
 some (decide (6000<((k1:Nat):Int)))).bind fun q3=>
 (y55 M a_0 0 300).bind fun r4=>
 r4.toU.bind fun u5=>
 u5.asB.bind fun b6=>
 (y53 M (!b6) 3).bind fun r7=>
 r7.toU.bind fun u8=>
 (u8.asI .i64).bind fun n9=>
 (y53 M q3 2).bind fun r10=>
 r10.toU.bind fun u11=>
 (u11.asI .i64).bind fun n12=>
 (y52 M (Sx.fz (⟨true,1,[.c (.int .i64 n9), .c (.int .i64 n12)]⟩:Sx))).bind fun r13=>
 r13.toU.bind fun u14=>
 (u14.asI .i64).bind fun n15=>
 (if(!decide (n15=0))=true then
 some (.tup [.c (.int .i64 0), .c (.int .i64 n15)])
 else
 (y63 M a_1 a_0).bind fun r16=>
 r16.asTup.bind fun t17=>
 (t17[0]?).bind fun u18=>
 (u18.asI .i64).bind fun n19=>
 (t17[1]?).bind fun u20=>
 (u20.asI .i64).bind fun n21=>
 (if(!decide (n21=0))=true then
 some (.tup [.c (.int .i64 n19), .c (.int .i64 n21)])
 else
 a_2.len.bind fun k22=>
 y25_1 M a_0 a_1 a_2 a_3 a_2 ((k22:Nat):Int) 0)):=yq (by kernel_rfl)
theorem Z0P(M:YM)(a_0:Int)(a_1 a_2 a_3 x49:U)(x50 x51:Int):y25_1 M a_0 a_1 a_2 a_3 x49 x50 x51=
 (if(decide (x51<x50))=true then
 (x49.idx 4 x51).bind fun v1=>
 (U.struct v1 0 ks0).bind fun f2=>
 (y55 M ((f2 0).i) 0 (IntKind.wrap .i64 (a_0 - 1))).bind fun r3=>
 r3.toU.bind fun u4=>
 u4.asB.bind fun b5=>
 (if(!b5)=false then
 (y55 M ((f2 1).i) 0 (IntKind.wrap .i64 (a_0 - 1))).bind fun r6=>
 r6.toU.bind fun u7=>
 u7.asB.bind fun b8=>
 some (!b8)
 else
 some (!b5)).bind fun q9=>
 (if q9=false then
 (y55 M ((f2 2).i) 0 4095).bind fun r10=>
 r10.toU.bind fun u11=>
 u11.asB.bind fun b12=>
 some (!b12)
 else
 some q9).bind fun q13=>
 (if q13=false then
 (y55 M ((f2 3).i) 0 4095).bind fun r14=>
 r14.toU.bind fun u15=>
 u15.asB.bind fun b16=>
 some (!b16)
 else
 some q13).bind fun q17=>
 (if q17=true then
 some (.tup [.c (.int .i64 x51), .c (.int .i64 3)])
 else
 y25_1 M a_0 a_1 a_2 a_3 x49 x50 (IntKind.wrap .i64 (x51+1)))
 else
 a_3.len.bind fun k18=>
 y25_2 M a_0 a_1 a_2 a_3 a_3 ((k18:Nat):Int) 0):=yq (by kernel_rfl)
theorem Z0Q(M:YM)(a_0:Int)(a_1 a_2 a_3 x87:U)(x88 x89:Int):y25_2 M a_0 a_1 a_2 a_3 x87 x88 x89=
 (if(decide (x89<x88))=true then
 (x87.idx 1 x89).bind fun v1=>
 (v1.cell 0).bind fun c2=>
 (y63 M c2 a_0).bind fun r3=>
 r3.asTup.bind fun t4=>
 (t4[0]?).bind fun u5=>
 (u5.asI .i64).bind fun n6=>
 (t4[1]?).bind fun u7=>
 (u7.asI .i64).bind fun n8=>
 (if(!decide (n8=0))=true then
 some (.tup [.c (.int .i64 x89), .c (.int .i64 n8)])
 else
 y25_2 M a_0 a_1 a_2 a_3 x87 x88 (IntKind.wrap .i64 (x89+1)))
 else
 some (.tup [.c (.int .i64 0), .c (.int .i64 0)])):=yq (by kernel_rfl)
theorem w1a(M:YM)(a_0:Int)(a_1 a_2 a_3:U):y27 M a_0 a_1 a_2 a_3=
 (y41 M a_0 0 300).bind fun r1=>
 r1.toU.bind fun u2=>
 u2.asB.bind fun b3=>
 (if(!b3)=true then
 some (.tup [.c (.int .i64 0), .c (.int .i64 3)])
 else
 a_2.len.bind fun k4=>
 (if(decide (6000<((k4:Nat):Int)))=false then
 a_3.len.bind fun k5=>
 some (decide (8<((k5:Nat):Int)))
 else
 some (decide (6000<((k4:Nat):Int)))).bind fun q6=>
 (if q6=true then
 some (.tup [.c (.int .i64 0), .c (.int .i64 2)])
 else
 y27_1 M a_0 a_1 a_2 a_3 0)):=yq (by kernel_rfl)
theorem Z0R(M:YM)(a_0:Int)(a_1 a_2 a_3:U)(i:Int):y27_1 M a_0 a_1 a_2 a_3 i=
 a_1.len.bind fun k1=>
 (if(decide (i<((k1:Nat):Int)))=true then
 (y65 M a_0 a_1 a_2 a_3 a_1 i).bind fun r2=>
 r2.toU.bind fun u3=>
 (u3.asI .i64).bind fun n4=>
 (if(!decide (n4=0))=true then
 some (.tup [.c (.int .i64 i), .c (.int .i64 n4)])
 else
 y27_1 M a_0 a_1 a_2 a_3 (IntKind.wrap .i64 (i+1)))
 else
 y27_2 M a_0 a_1 a_2 a_3 0):=yq (by kernel_rfl)
theorem Z0S(M:YM)(a_0:Int)(a_1 a_2 a_3:U)(i:Int):y27_2 M a_0 a_1 a_2 a_3 i=
 a_2.len.bind fun k1=>
 (if(decide (i<((k1:Nat):Int)))=true then
 (a_2.idx 4 i).bind fun v2=>
 (U.struct v2 0 ks0).bind fun f3=>
 (y41 M ((f3 0).i) 0 (IntKind.wrap .i64 (a_0 - 1))).bind fun r4=>
 r4.toU.bind fun u5=>
 u5.asB.bind fun b6=>
 (if(!b6)=false then
 (y41 M ((f3 1).i) 0 (IntKind.wrap .i64 (a_0 - 1))).bind fun r7=>
 r7.toU.bind fun u8=>
 u8.asB.bind fun b9=>
 some (!b9)
 else
 some (!b6)).bind fun q10=>
 (if q10=false then
 (y41 M ((f3 2).i) 0 4095).bind fun r11=>
 r11.toU.bind fun u12=>
 u12.asB.bind fun b13=>
 some (!b13)
 else
 some q10).bind fun q14=>
 (if q14=false then
 (y41 M ((f3 3).i) 0 4095).bind fun r15=>
 r15.toU.bind fun u16=>
 u16.asB.bind fun b17=>
 some (!b17)
 else
 some q14).bind fun q18=>
 (if q18=true then
 some (.tup [.c (.int .i64 i), .c (.int .i64 3)])
 else
 y27_2 M a_0 a_1 a_2 a_3 (IntKind.wrap .i64 (i+1)))
 else
 y27_3 M a_0 a_1 a_2 a_3 0):=yq (by kernel_rfl)
theorem Z0T(M:YM)(a_0:Int)(a_1 a_2 a_3:U)(i:Int):y27_3 M a_0 a_1 a_2 a_3 i=
 a_3.len.bind fun k1=>
 (if(decide (i<((k1:Nat):Int)))=true then
 y27_4 M a_0 a_1 a_2 a_3 i 0
 else
 some (.tup [.c (.int .i64 0), .c (.int .i64 0)])):=yq (by kernel_rfl)
theorem Z0U(M:YM)(a_0:Int)(a_1 a_2 a_3:U)(i k:Int):y27_4 M a_0 a_1 a_2 a_3 i k=
 (a_3.idx 1 i).bind fun v1=>
 (v1.cell 0).bind fun c2=>
 c2.len.bind fun k3=>
 (if(decide (k<((k3:Nat):Int)))=true then
 (a_3.idx 1 i).bind fun v4=>
 (v4.cell 0).bind fun c5=>
 (y65 M a_0 a_1 a_2 a_3 c5 k).bind fun r6=>
 r6.toU.bind fun u7=>
 (u7.asI .i64).bind fun n8=>
 (if(!decide (n8=0))=true then
 some (.tup [.c (.int .i64 i), .c (.int .i64 n8)])
 else
 y27_4 M a_0 a_1 a_2 a_3 i (IntKind.wrap .i64 (k+1)))
 else
 y27_3 M a_0 a_1 a_2 a_3 (IntKind.wrap .i64 (i+1))):=yq (by kernel_rfl)
theorem w1b(M:YM)(a_0:Int)(a_1 a_2 a_3:U):y28 M a_0 a_1 a_2 a_3=
 (y30 M a_0 a_1 a_2 a_3 0 (Sx.fz (⟨false,0,[]⟩:Sx)) (Sx.fz (⟨false,0,[]⟩:Sx)) (Sx.fz (⟨false,0,[]⟩:Sx))).bind fun r1=>
 r1.toU.bind fun u2=>
 u2.asB.bind fun b3=>
 some (.val (.c (.bool b3))):=yq (by kernel_rfl)
theorem w1c(M:YM)(a_0:Int)(a_1 a_2 a_3:U)(b_0:Int)(b_1 b_2 b_3:U):y30 M a_0 a_1 a_2 a_3 b_0 b_1 b_2 b_3=
 (if(!decide (a_0=b_0))=false then
 (y31 M a_1 b_1).bind fun r1=>
 r1.toU.bind fun u2=>
 u2.asB.bind fun b3=>
 some (!b3)
 else
 some (!decide (a_0=b_0))).bind fun q4=>
 (if q4=false then
 a_2.len.bind fun k5=>
 b_2.len.bind fun k6=>
 some (!decide (((k5:Nat):Int)=((k6:Nat):Int)))
 else
 some q4).bind fun q7=>
 (if q7=false then
 (y67 M a_3 b_3).bind fun r8=>
 r8.toU.bind fun u9=>
 u9.asB.bind fun b10=>
 some (!b10)
 else
 some q7).bind fun q11=>
 (if q11=true then
 some (.val (.c (.bool false)))
 else
 y30_1 M a_0 a_1 a_2 a_3 b_0 b_1 b_2 b_3 0):=yq (by kernel_rfl)
theorem j1a(M:YM)(a_0:Int)(a_1 a_2 a_3:U)(b_0:Int)(b_1 b_2 b_3:U)(i:Int):y30_1 M a_0 a_1 a_2 a_3 b_0 b_1 b_2 b_3 i=
 a_2.len.bind fun k1=>
 (if(decide (i<((k1:Nat):Int)))=true then
 (a_2.idx 4 i).bind fun v2=>
 (b_2.idx 4 i).bind fun v3=>
 (U.struct v2 0 ks0).bind fun f4=>
 (U.struct v3 0 ks0).bind fun f5=>
 (eqUs ks0 (.st [.c (.int .i64 ((f4 0).i)), .c (.int .i64 ((f4 1).i)), .c (.int .i64 ((f4 2).i)), .c (.int .i64 ((f4 3).i))]:U) (.st [.c (.int .i64 ((f5 0).i)), .c (.int .i64 ((f5 1).i)), .c (.int .i64 ((f5 2).i)), .c (.int .i64 ((f5 3).i))]:U)).bind fun b6=>
 (if(b6 !=true)=true then
 some (.val (.c (.bool false)))
 else
 y30_1 M a_0 a_1 a_2 a_3 b_0 b_1 b_2 b_3 (IntKind.wrap .i64 (i+1)))
 else
 some (.val (.c (.bool true)))):=yq (by kernel_rfl)
theorem w1d(M:YM)(a b:U):y31 M a b=
 a.len.bind fun k1=>
 b.len.bind fun k2=>
 (if(!decide (((k1:Nat):Int)=((k2:Nat):Int)))=true then
 some (.val (.c (.bool false)))
 else
 y31_1 M a b 0):=yq (by kernel_rfl)
theorem j1b(M:YM)(a b:U)(i:Int):y31_1 M a b i=
 a.len.bind fun k1=>
 (if(decide (i<((k1:Nat):Int)))=true then
 (a.idx 1 i).bind fun v2=>
 (b.idx 1 i).bind fun v3=>
 (v2.cell 0).bind fun c4=>
 (c4.asI .i64).bind fun n5=>
 (v3.cell 0).bind fun c6=>
 (c6.asI .i64).bind fun n7=>
 (if(!decide (n5=n7))=true then
 some (.val (.c (.bool false)))
 else
 y31_1 M a b (IntKind.wrap .i64 (i+1)))
 else
 some (.val (.c (.bool true)))):=yq (by kernel_rfl)
theorem X0y(M:YM)(a_0:Int)(a_1 a_2 a_3:U)(b_0:Int)(b_1 b_2 b_3:U):y32 M a_0 a_1 a_2 a_3 b_0 b_1 b_2 b_3=
 (y36 M a_0 a_1 a_2 a_3).bind fun r1=>
 r1.toU.bind fun u2=>
 (u2.asI .i64).bind fun n3=>
 (y36 M b_0 b_1 b_2 b_3).bind fun r4=>
 r4.toU.bind fun u5=>
 (u5.asI .i64).bind fun n6=>
 (y52 M (Sx.fz (⟨true,1,[.c (.int .i64 n3), .c (.int .i64 n6)]⟩:Sx))).bind fun r7=>
 r7.toU.bind fun u8=>
 (u8.asI .i64).bind fun n9=>
 (if(!decide (n9=0))=true then
 some (.tup [.st [.c (.int .i64 0),Sx.fz (⟨false,0,[]⟩:Sx),Sx.fz (⟨false,0,[]⟩:Sx),Sx.fz (⟨false,0,[]⟩:Sx)], .c (.int .i64 n9)])
 else
 (if(decide (300<(IntKind.wrap .i64 (a_0*b_0))))=true then
 some (.tup [.st [.c (.int .i64 0),Sx.fz (⟨false,0,[]⟩:Sx),Sx.fz (⟨false,0,[]⟩:Sx),Sx.fz (⟨false,0,[]⟩:Sx)], .c (.int .i64 2)])
 else
 a_1.len.bind fun k10=>
 y32_1 M a_0 a_1 a_2 a_3 (.ref (.st [.c (.int .i64 b_0),b_1,b_2,b_3]) 0) 0 (.fn 68 [] [.ref (.st [.c (.int .i64 b_0),b_1,b_2,b_3]) 0]) (IntKind.wrap .i64 (a_0*b_0)) a_1 ((k10:Nat):Int) 0 (⟨false,0,[]⟩:Sx) (⟨false,0,[]⟩:Sx) (⟨false,0,[]⟩:Sx) (⟨false,0,[]⟩:Sx) (⟨false,0,[]⟩:Sx) (⟨false,0,[]⟩:Sx))):=yq (by kernel_rfl)
theorem Z0V(M:YM)(a_0:Int)(a_1 a_2 a_3 b:U)(x4_0:Int)(pair:U)(out_0:Int)(x55:U)(x56 x57:Int)(x4_1 x4_2 x4_3 out_1 out_2 out_3:Sx):y32_1 M a_0 a_1 a_2 a_3 b x4_0 pair out_0 x55 x56 x57 x4_1 x4_2 x4_3 out_1 out_2 out_3=
 (if(decide (x57<x56))=true then
 (x55.idx 1 x57).bind fun v1=>
 (v1.cell 0).bind fun c2=>
 (c2.asI .i64).bind fun n3=>
 b.asR.bind fun a4=>
 (U.cell a4.1 (a4.2+1)).bind fun c5=>
 c5.len.bind fun k6=>
 y32_2 M a_0 a_1 a_2 a_3 b x4_0 pair out_0 n3 x55 x56 x57 c5 ((k6:Nat):Int) 0 x4_1 x4_2 x4_3 out_1 out_2 out_3
 else
 a_2.len.bind fun k7=>
 y32_3 M a_0 a_1 a_2 a_3 b x4_0 pair out_0 a_2 ((k7:Nat):Int) 0 x4_1 x4_2 x4_3 out_1 out_2 out_3):=yq (by kernel_rfl)
theorem Z0W(M:YM)(a_0:Int)(a_1 a_2 a_3 b:U)(x4_0:Int)(pair:U)(out_0 s:Int)(x55:U)(x56 x57:Int)(x62:U)(x63 x64:Int)(x4_1 x4_2 x4_3 out_1 out_2 out_3:Sx):y32_2 M a_0 a_1 a_2 a_3 b x4_0 pair out_0 s x55 x56 x57 x62 x63 x64 x4_1 x4_2 x4_3 out_1 out_2 out_3=
 (if(decide (x64<x63))=true then
 (x62.idx 1 x64).bind fun v1=>
 (v1.cell 0).bind fun c2=>
 (c2.asI .i64).bind fun n3=>
 pair.asF.bind fun g4=>
 (ycall M g4.1 (g4.2.1++[.c (.int .i64 s), .c (.int .i64 n3)]++g4.2.2)).bind fun r5=>
 r5.toU.bind fun u6=>
 (u6.asI .i64).bind fun n7=>
 (Sx.app out_1 1 ([.c (.int .i64 n7)])).bind fun s8=>
 y32_2 M a_0 a_1 a_2 a_3 b x4_0 pair out_0 s x55 x56 x57 x62 x63 (IntKind.wrap .i64 (x64+1)) x4_1 x4_2 x4_3 s8 out_2 out_3
 else
 y32_1 M a_0 a_1 a_2 a_3 b x4_0 pair out_0 x55 x56 (IntKind.wrap .i64 (x57+1)) x4_1 x4_2 x4_3 out_1 out_2 out_3):=yq (by kernel_rfl)
theorem Z0X(M:YM)(a_0:Int)(a_1 a_2 a_3 b:U)(x4_0:Int)(pair:U)(out_0:Int)(x80:U)(x81 x82:Int)(x4_1 x4_2 x4_3 out_1 out_2 out_3:Sx):y32_3 M a_0 a_1 a_2 a_3 b x4_0 pair out_0 x80 x81 x82 x4_1 x4_2 x4_3 out_1 out_2 out_3=
 (if(decide (x82<x81))=true then
 (x80.idx 4 x82).bind fun v1=>
 (U.struct v1 0 ks0).bind fun f2=>
 b.asR.bind fun a3=>
 (U.cell a3.1 (a3.2+2)).bind fun c4=>
 c4.len.bind fun k5=>
 y32_4 M a_0 a_1 a_2 a_3 b x4_0 pair out_0 ((f2 0).i) ((f2 1).i) ((f2 2).i) ((f2 3).i) x80 x81 x82 c4 ((k5:Nat):Int) 0 x4_1 x4_2 x4_3 out_1 out_2 out_3
 else
 a_3.len.bind fun k6=>
 y32_6 M a_0 a_1 a_2 a_3 b x4_0 pair out_0 a_3 ((k6:Nat):Int) 0 x4_1 x4_2 x4_3 out_1 out_2 out_3):=yq (by kernel_rfl)
theorem Z0Y(M:YM)(a_0:Int)(a_1 a_2 a_3 b:U)(x4_0:Int)(pair:U)(out_0 x_0 x_1 x_2 x_3:Int)(x80:U)(x81 x82:Int)(x87:U)(x88 x89:Int)(x4_1 x4_2 x4_3 out_1 out_2 out_3:Sx):y32_4 M a_0 a_1 a_2 a_3 b x4_0 pair out_0 x_0 x_1 x_2 x_3 x80 x81 x82 x87 x88 x89 x4_1 x4_2 x4_3 out_1 out_2 out_3=
 (if(decide (x89<x88))=true then
 (x87.idx 4 x89).bind fun v1=>
 (U.struct v1 0 ks0).bind fun f2=>
 pair.asF.bind fun g3=>
 (ycall M g3.1 (g3.2.1++[.c (.int .i64 x_0), .c (.int .i64 ((f2 0).i))]++g3.2.2)).bind fun r4=>
 r4.toU.bind fun u5=>
 (u5.asI .i64).bind fun n6=>
 pair.asF.bind fun g7=>
 (ycall M g7.1 (g7.2.1++[.c (.int .i64 x_1), .c (.int .i64 ((f2 1).i))]++g7.2.2)).bind fun r8=>
 r8.toU.bind fun u9=>
 (u9.asI .i64).bind fun n10=>
 (y69 M n6 n10 (bitI .or .i64 x_2 ((f2 2).i)) (bitI .or .i64 x_3 ((f2 3).i))).bind fun r11=>
 r11.toU.bind fun u12=>
 u12.asB.bind fun b13=>
 (if b13=true then
 (Sx.app out_2 4 ([.st [.c (.int .i64 n6), .c (.int .i64 n10), .c (.int .i64 (bitI .or .i64 x_2 ((f2 2).i))), .c (.int .i64 (bitI .or .i64 x_3 ((f2 3).i)))]])).bind fun s14=>
 y32_5 M a_0 a_1 a_2 a_3 b x4_0 pair out_0 x_0 x_1 x_2 x_3 x80 x81 x82 x87 x88 x89 x4_1 x4_2 x4_3 out_1 s14 out_3
 else
 y32_5 M a_0 a_1 a_2 a_3 b x4_0 pair out_0 x_0 x_1 x_2 x_3 x80 x81 x82 x87 x88 x89 x4_1 x4_2 x4_3 out_1 out_2 out_3)
 else
 y32_3 M a_0 a_1 a_2 a_3 b x4_0 pair out_0 x80 x81 (IntKind.wrap .i64 (x82+1)) x4_1 x4_2 x4_3 out_1 out_2 out_3):=yq (by kernel_rfl)
theorem Z0Z(M:YM)(a_0:Int)(a_1 a_2 a_3 b:U)(x4_0:Int)(pair:U)(out_0:Int)(x127:U)(x128 x129:Int)(x4_1 x4_2 x4_3 out_1 out_2 out_3:Sx):y32_6 M a_0 a_1 a_2 a_3 b x4_0 pair out_0 x127 x128 x129 x4_1 x4_2 x4_3 out_1 out_2 out_3=
 (if(decide (x129<x128))=true then
 (x127.idx 1 x129).bind fun v1=>
 (v1.cell 0).bind fun c2=>
 c2.len.bind fun k3=>
 y32_7 M a_0 a_1 a_2 a_3 b x4_0 pair out_0 x127 x128 x129 c2 ((k3:Nat):Int) 0 x4_1 x4_2 x4_3 out_1 out_2 out_3 (⟨false,0,[]⟩:Sx)
 else
 b.asR.bind fun a4=>
 (U.cell a4.1 (a4.2+3)).bind fun c5=>
 c5.len.bind fun k6=>
 y32_9 M a_0 a_1 a_2 a_3 x4_0 pair out_0 c5 ((k6:Nat):Int) 0 x4_1 x4_2 x4_3 out_1 out_2 out_3):=yq (by kernel_rfl)
theorem K0a(M:YM)(a_0:Int)(a_1 a_2 a_3 b:U)(x4_0:Int)(pair:U)(out_0 x_0 x_1 x_2 x_3:Int)(x80:U)(x81 x82:Int)(x87:U)(x88 x89:Int)(x4_1 x4_2 x4_3 out_1 out_2 out_3:Sx):y32_5 M a_0 a_1 a_2 a_3 b x4_0 pair out_0 x_0 x_1 x_2 x_3 x80 x81 x82 x87 x88 x89 x4_1 x4_2 x4_3 out_1 out_2 out_3=
 y32_4 M a_0 a_1 a_2 a_3 b x4_0 pair out_0 x_0 x_1 x_2 x_3 x80 x81 x82 x87 x88 (IntKind.wrap .i64 (x89+1)) x4_1 x4_2 x4_3 out_1 out_2 out_3:=yq (by kernel_rfl)
theorem K0b(M:YM)(a_0:Int)(a_1 a_2 a_3 b:U)(x4_0:Int)(pair:U)(out_0:Int)(x127:U)(x128 x129:Int)(x133:U)(x134 x135:Int)(x4_1 x4_2 x4_3 out_1 out_2 out_3 vset:Sx):y32_7 M a_0 a_1 a_2 a_3 b x4_0 pair out_0 x127 x128 x129 x133 x134 x135 x4_1 x4_2 x4_3 out_1 out_2 out_3 vset=
 (if(decide (x135<x134))=true then
 (x133.idx 1 x135).bind fun v1=>
 (v1.cell 0).bind fun c2=>
 (c2.asI .i64).bind fun n3=>
 b.asR.bind fun a4=>
 (U.cell a4.1 a4.2).bind fun c5=>
 (c5.asI .i64).bind fun n6=>
 y32_8 M a_0 a_1 a_2 a_3 b x4_0 pair out_0 n3 x127 x128 x129 x133 x134 x135 n6 0 x4_1 x4_2 x4_3 out_1 out_2 out_3 vset
 else
 (Sx.app out_3 1 ([Sx.fz vset])).bind fun s7=>
 y32_6 M a_0 a_1 a_2 a_3 b x4_0 pair out_0 x127 x128 (IntKind.wrap .i64 (x129+1)) x4_1 x4_2 x4_3 out_1 out_2 s7):=yq (by kernel_rfl)
theorem K0c(M:YM)(a_0:Int)(a_1 a_2 a_3:U)(x4_0:Int)(pair:U)(out_0:Int)(x161:U)(x162 x163:Int)(x4_1 x4_2 x4_3 out_1 out_2 out_3:Sx):y32_9 M a_0 a_1 a_2 a_3 x4_0 pair out_0 x161 x162 x163 x4_1 x4_2 x4_3 out_1 out_2 out_3=
 (if(decide (x163<x162))=true then
 (x161.idx 1 x163).bind fun v1=>
 (v1.cell 0).bind fun c2=>
 y32_10 M a_0 a_1 a_2 a_3 x4_0 pair out_0 c2 x161 x162 x163 a_0 0 x4_1 x4_2 x4_3 out_1 out_2 out_3 (⟨false,0,[]⟩:Sx)
 else
 (y70 M out_0 (Sx.fz out_1) (Sx.fz out_2) (Sx.fz out_3)).bind fun r3=>
 r3.asTup.bind fun t4=>
 (t4[0]?).bind fun u5=>
 (u5.exact ks2).bind fun f6=>
 (t4[1]?).bind fun u7=>
 (u7.asI .i64).bind fun n8=>
 some (.tup [.st [.c (.int .i64 ((f6 0).i)),(f6 1),(f6 2),(f6 3)], .c (.int .i64 n8)])):=yq (by kernel_rfl)
theorem K0d(M:YM)(a_0:Int)(a_1 a_2 a_3 b:U)(x4_0:Int)(pair:U)(out_0 s:Int)(x127:U)(x128 x129:Int)(x133:U)(x134 x135 x140 x141:Int)(x4_1 x4_2 x4_3 out_1 out_2 out_3 vset:Sx):y32_8 M a_0 a_1 a_2 a_3 b x4_0 pair out_0 s x127 x128 x129 x133 x134 x135 x140 x141 x4_1 x4_2 x4_3 out_1 out_2 out_3 vset=
 (if(decide (x141<x140))=true then
 pair.asF.bind fun g1=>
 (ycall M g1.1 (g1.2.1++[.c (.int .i64 s), .c (.int .i64 x141)]++g1.2.2)).bind fun r2=>
 r2.toU.bind fun u3=>
 (u3.asI .i64).bind fun n4=>
 (Sx.app vset 1 ([.c (.int .i64 n4)])).bind fun s5=>
 y32_8 M a_0 a_1 a_2 a_3 b x4_0 pair out_0 s x127 x128 x129 x133 x134 x135 x140 (IntKind.wrap .i64 (x141+1)) x4_1 x4_2 x4_3 out_1 out_2 out_3 s5
 else
 y32_7 M a_0 a_1 a_2 a_3 b x4_0 pair out_0 x127 x128 x129 x133 x134 (IntKind.wrap .i64 (x135+1)) x4_1 x4_2 x4_3 out_1 out_2 out_3 vset):=yq (by kernel_rfl)
theorem J0f(M:YM)(a_0:Int)(a_1 a_2 a_3:U)(x4_0:Int)(pair:U)(out_0:Int)(l x161:U)(x162 x163 x168 x169:Int)(x4_1 x4_2 x4_3 out_1 out_2 out_3 vset:Sx):y32_10 M a_0 a_1 a_2 a_3 x4_0 pair out_0 l x161 x162 x163 x168 x169 x4_1 x4_2 x4_3 out_1 out_2 out_3 vset=
 (if(decide (x169<x168))=true then
 l.len.bind fun k1=>
 y32_11 M a_0 a_1 a_2 a_3 x4_0 pair out_0 l x169 x161 x162 x163 x168 x169 l ((k1:Nat):Int) 0 x4_1 x4_2 x4_3 out_1 out_2 out_3 vset
 else
 (Sx.app out_3 1 ([Sx.fz vset])).bind fun s2=>
 y32_9 M a_0 a_1 a_2 a_3 x4_0 pair out_0 x161 x162 (IntKind.wrap .i64 (x163+1)) x4_1 x4_2 x4_3 out_1 out_2 s2):=yq (by kernel_rfl)
theorem J0g(M:YM)(a_0:Int)(a_1 a_2 a_3:U)(x4_0:Int)(pair:U)(out_0:Int)(l:U)(s:Int)(x161:U)(x162 x163 x168 x169:Int)(x172:U)(x173 x174:Int)(x4_1 x4_2 x4_3 out_1 out_2 out_3 vset:Sx):y32_11 M a_0 a_1 a_2 a_3 x4_0 pair out_0 l s x161 x162 x163 x168 x169 x172 x173 x174 x4_1 x4_2 x4_3 out_1 out_2 out_3 vset=
 (if(decide (x174<x173))=true then
 (x172.idx 1 x174).bind fun v1=>
 (v1.cell 0).bind fun c2=>
 (c2.asI .i64).bind fun n3=>
 pair.asF.bind fun g4=>
 (ycall M g4.1 (g4.2.1++[.c (.int .i64 s), .c (.int .i64 n3)]++g4.2.2)).bind fun r5=>
 r5.toU.bind fun u6=>
 (u6.asI .i64).bind fun n7=>
 (Sx.app vset 1 ([.c (.int .i64 n7)])).bind fun s8=>
 y32_11 M a_0 a_1 a_2 a_3 x4_0 pair out_0 l s x161 x162 x163 x168 x169 x172 x173 (IntKind.wrap .i64 (x174+1)) x4_1 x4_2 x4_3 out_1 out_2 out_3 s8
 else
 y32_10 M a_0 a_1 a_2 a_3 x4_0 pair out_0 l x161 x162 x163 x168 (IntKind.wrap .i64 (x169+1)) x4_1 x4_2 x4_3 out_1 out_2 out_3 vset):=yq (by kernel_rfl)
theorem w1e(M:YM)(a_0:Int)(a_1 a_2 a_3:U):y34 M a_0 a_1 a_2 a_3=
 a_1.len.bind fun k1=>
 (if(decide (300<((k1:Nat):Int)))=false then
 a_2.len.bind fun k2=>
 some (decide (6000<((k2:Nat):Int)))
 else
 some (decide (300<((k1:Nat):Int)))).bind fun q3=>
 (if q3=false then
 a_3.len.bind fun k4=>
 some (decide (8<((k4:Nat):Int)))
 else
 some q3).bind fun q5=>
 (if q5=true then
 some (.val (.c (.bool false)))
 else
 (y12 M a_0 a_1 a_2 a_3).bind fun r6=>
 r6.toU.bind fun u7=>
 (u7.asI .i64).bind fun n8=>
 some (.val (.c (.bool (decide (n8=0)))))):=yq (by kernel_rfl)
theorem w1f(M:YM)(a_0:Int)(a_1 a_2 a_3:U):y36 M a_0 a_1 a_2 a_3=
 (y25 M a_0 a_1 a_2 a_3).bind fun r1=>
 r1.asTup.bind fun t2=>
 (t2[0]?).bind fun u3=>
 (u3.asI .i64).bind fun n4=>
 (t2[1]?).bind fun u5=>
 (u5.asI .i64).bind fun n6=>
 some (.val (.c (.int .i64 n6))):=yq (by kernel_rfl)
theorem w1g(M:YM)(l:U):y38 M l=
 (U.asL l).bind fun l1=>
 (Sx.app (⟨true,1,[]⟩:Sx) 1 l1.2).bind fun s2=>
 (if scals s2.es=true then
 some (.sl s2)
 else
 none):=yq (by kernel_rfl)
theorem w1h(M:YM)(l:U):y39 M l=
 y39_1 M l 0 (⟨false,0,[]⟩:Sx):=yq (by kernel_rfl)
theorem K0e(M:YM)(l:U)(i:Int)(out:Sx):y39_1 M l i out=
 l.len.bind fun k1=>
 (if(decide (i<((k1:Nat):Int)))=true then
 (l.idx 1 i).bind fun v2=>
 (v2.cell 0).bind fun c3=>
 (y38 M c3).bind fun r4=>
 r4.asSl.bind fun s5=>
 (Sx.app out 1 ([Sx.fz s5])).bind fun s6=>
 y39_1 M l (IntKind.wrap .i64 (i+1)) s6
 else
 some (.sl out)):=yq (by kernel_rfl)
theorem w1i(M:YM)(n low high:Int):y41 M n low high=
 (if(decide (low<=n))=true then
 some (decide (n<=high))
 else
 some (decide (low<=n))).bind fun q1=>
 some (.val (.c (.bool q1))):=yq (by kernel_rfl)
theorem w1j(M:YM)(w_0 w_1:U)(vat:Int):y42 M w_0 w_1 vat=
 w_0.len.bind fun k1=>
 (if(decide (vat<((k1:Nat):Int)))=true then
 (w_0.idx 1 vat).bind fun v2=>
 (v2.cell 0).bind fun c3=>
 (c3.asI .i64).bind fun n4=>
 some (.val (.c (.int .i64 n4)))
 else
 w_0.len.bind fun k5=>
 w_1.len.bind fun k6=>
 (if((k6:Nat):Int)=0 then
 none
 else
 (w_1.idx 1 (Int.tmod (IntKind.wrap .i64 (vat - ((k5:Nat):Int))) ((k6:Nat):Int))).bind fun v7=>
 (v7.cell 0).bind fun c8=>
 (c8.asI .i64).bind fun n9=>
 some (.val (.c (.int .i64 n9))))):=yq (by kernel_rfl)
theorem w1k(M:YM)(x_0 x_1 x_2 x_3 letter:Int):y43 M x_0 x_1 x_2 x_3 letter=
 y43_1 M letter x_0 x_1 x_2 x_3 0:=yq (by kernel_rfl)
theorem K0f(M:YM)(letter x_0 x_1 x_2 x_3 i:Int):y43_1 M letter x_0 x_1 x_2 x_3 i=
 (if(decide (i<12))=true then
 (y81 M x_2 i).bind fun r1=>
 r1.toU.bind fun u2=>
 u2.asB.bind fun b3=>
 (if b3=true then
 (y81 M letter i).bind fun r4=>
 r4.toU.bind fun u5=>
 u5.asB.bind fun b6=>
 some (!b6)
 else
 some b3).bind fun q7=>
 (if q7=false then
 (y81 M x_3 i).bind fun r8=>
 r8.toU.bind fun u9=>
 u9.asB.bind fun b10=>
 (if b10=true then
 (y81 M letter i).bind fun r11=>
 r11.toU.bind fun u12=>
 u12.asB.bind fun b13=>
 some b13
 else
 some b10).bind fun q14=>
 some q14
 else
 some q7).bind fun q15=>
 (if q15=true then
 some (.val (.c (.bool false)))
 else
 y43_1 M letter x_0 x_1 x_2 x_3 (IntKind.wrap .i64 (i+1)))
 else
 some (.val (.c (.bool true)))):=yq (by kernel_rfl)
theorem z1r(M:YM)(next sets:U):y44 M next sets=
 next.len.bind fun k1=>
 (if 0<=((k1:Nat):Int)/\((k1:Nat):Int)<=2 ^ 36/\1=1 then
 y44_1 M next sets 0 (⟨true,1,List.replicate ((k1:Nat):Int).toNat (.c (.bool false))⟩:Sx)
 else
 none):=yq (by kernel_rfl)
theorem Q0l(M:YM)(next sets:U)(i:Int)(vin:Sx):y44_1 M next sets i vin=
 (if(decide (i<(((vin.es).length:Nat):Int)))=true then
 (if Sx.has vin 1 i=true then
 (Sx.put vin 1 i.toNat 0 (.c (.bool true))).bind fun s1=>
 y44_1 M next sets (IntKind.wrap .i64 (i+1)) s1
 else
 none)
 else
 (y82 M next).bind fun r2=>
 r2.toU.bind fun u3=>
 u3.one.bind fun u4=>
 sets.len.bind fun k5=>
 (if(decide (((k5:Nat):Int)=0))=true then
 (Sx.app (⟨true,1,[]⟩:Sx) 1 vin.es).bind fun s6=>
 y44_2 M u4 vin (⟨true,1,[Sx.fz s6]⟩:Sx)
 else
 y44_2b M u4 sets vin)):=yq (by kernel_rfl)
theorem j1c(M:YM)(before:U)(vin all:Sx):y44_2 M before vin all=
 y44_3 M before true vin all:=yq (by kernel_rfl)
theorem X0z(M:YM)(before all:U)(vin:Sx):y44_2b M before all vin=
 y44_3b M before all true vin:=yq (by kernel_rfl)
theorem j1d(M:YM)(before:U)(changed:Bool)(vin all:Sx):y44_3 M before changed vin all=
 (if changed=true then
 y44_4 M before false 0 vin all
 else
 (if scals vin.es=true then
 some (.sl vin)
 else
 none)):=yq (by kernel_rfl)
theorem X0A(M:YM)(before all:U)(changed:Bool)(vin:Sx):y44_3b M before all changed vin=
 (if changed=true then
 y44_4b M before all false 0 vin
 else
 (if scals vin.es=true then
 some (.sl vin)
 else
 none)):=yq (by kernel_rfl)
theorem K0g(M:YM)(before:U)(changed:Bool)(k:Int)(vin all:Sx):y44_4 M before changed k vin all=
 (if(decide (k<(((all.es).length:Nat):Int)))=true then
 (if Sx.has all 1 k=true then
 ((all.es)[k.toNat]?).bind fun v1=>
 (v1.cell 0).bind fun c2=>
 (y83 M before (Sx.fz vin) c2).bind fun r3=>
 r3.asSl.bind fun s4=>
 y44_5 M before changed k 0 vin all s4
 else
 none)
 else
 y44_3 M before changed vin all):=yq (by kernel_rfl)
theorem J0h(M:YM)(before all:U)(changed:Bool)(k:Int)(vin:Sx):y44_4b M before all changed k vin=
 all.len.bind fun k1=>
 (if(decide (k<((k1:Nat):Int)))=true then
 (all.idx 1 k).bind fun v2=>
 (v2.cell 0).bind fun c3=>
 (y83 M before (Sx.fz vin) c3).bind fun r4=>
 r4.asSl.bind fun s5=>
 y44_5b M before all changed k 0 vin s5
 else
 y44_3b M before all changed vin):=yq (by kernel_rfl)
theorem K0h(M:YM)(before:U)(changed:Bool)(k i:Int)(vin all now:Sx):y44_5 M before changed k i vin all now=
 (if(decide (i<(((vin.es).length:Nat):Int)))=true then
 (if Sx.has vin 1 i=true then
 ((vin.es)[i.toNat]?).bind fun v1=>
 (v1.cell 0).bind fun c2=>
 c2.asB.bind fun b3=>
 (if b3=true then
 (if Sx.has now 1 i=true then
 ((now.es)[i.toNat]?).bind fun v4=>
 (v4.cell 0).bind fun c5=>
 c5.asB.bind fun b6=>
 some (!b6)
 else
 none)
 else
 some b3).bind fun q7=>
 (if q7=true then
 (if Sx.has vin 1 i=true then
 (Sx.put vin 1 i.toNat 0 (.c (.bool false))).bind fun s8=>
 y44_6 M before true k i s8 all now
 else
 none)
 else
 y44_6 M before changed k i vin all now)
 else
 none)
 else
 y44_4 M before changed (IntKind.wrap .i64 (k+1)) vin all):=yq (by kernel_rfl)
theorem J0i(M:YM)(before all:U)(changed:Bool)(k i:Int)(vin now:Sx):y44_5b M before all changed k i vin now=
 (if(decide (i<(((vin.es).length:Nat):Int)))=true then
 (if Sx.has vin 1 i=true then
 ((vin.es)[i.toNat]?).bind fun v1=>
 (v1.cell 0).bind fun c2=>
 c2.asB.bind fun b3=>
 (if b3=true then
 (if Sx.has now 1 i=true then
 ((now.es)[i.toNat]?).bind fun v4=>
 (v4.cell 0).bind fun c5=>
 c5.asB.bind fun b6=>
 some (!b6)
 else
 none)
 else
 some b3).bind fun q7=>
 (if q7=true then
 (if Sx.has vin 1 i=true then
 (Sx.put vin 1 i.toNat 0 (.c (.bool false))).bind fun s8=>
 y44_6b M before all true k i s8 now
 else
 none)
 else
 y44_6b M before all changed k i vin now)
 else
 none)
 else
 y44_4b M before all changed (IntKind.wrap .i64 (k+1)) vin):=yq (by kernel_rfl)
theorem j1e(M:YM)(before:U)(changed:Bool)(k i:Int)(vin all now:Sx):y44_6 M before changed k i vin all now=
 y44_5 M before changed k (IntKind.wrap .i64 (i+1)) vin all now:=yq (by kernel_rfl)
theorem X0B(M:YM)(before all:U)(changed:Bool)(k i:Int)(vin now:Sx):y44_6b M before all changed k i vin now=
 y44_5b M before all changed k (IntKind.wrap .i64 (i+1)) vin now:=yq (by kernel_rfl)
theorem w1l(M:YM)(vals:U):y52 M vals=
 vals.len.bind fun k1=>
 y52_1 M 0 vals ((k1:Nat):Int) 0:=yq (by kernel_rfl)
theorem K0i(M:YM)(zero:Int)(x6:U)(x7 x8:Int):y52_1 M zero x6 x7 x8=
 (if(decide (x8<x7))=true then
 (x6.idx 1 x8).bind fun v1=>
 (v1.cell 0).bind fun c2=>
 (c2.asI .i64).bind fun n3=>
 (if(!decide (n3=zero))=true then
 some (.val (.c (.int .i64 n3)))
 else
 y52_1 M zero x6 x7 (IntKind.wrap .i64 (x8+1)))
 else
 some (.val (.c (.int .i64 zero)))):=yq (by kernel_rfl)
theorem w1m(M:YM)(is:Bool)(code:Int):y53 M is code=
 (if is=true then
 some (.val (.c (.int .i64 code)))
 else
 some (.val (.c (.int .i64 0)))):=yq (by kernel_rfl)
theorem w1n(M:YM)(n vfrom to:Int):y55 M n vfrom to=
 (if(decide (vfrom<=n))=true then
 some (decide (n<=to))
 else
 some (decide (vfrom<=n))).bind fun q1=>
 some (.val (.c (.bool q1))):=yq (by kernel_rfl)
theorem w1o(M:YM)(s:U)(v:Int):y56 M s v=
 (y90 M s v).bind fun r1=>
 r1.toU.bind fun u2=>
 (u2.asI .i64).bind fun n3=>
 some (.val (.c (.bool (decide (0<=n3))))):=yq (by kernel_rfl)
theorem w1p(M:YM)(l:U)(states:Int):y63 M l states=
 l.len.bind fun k1=>
 y63_1 M l states l ((k1:Nat):Int) 0:=yq (by kernel_rfl)
theorem K0j(M:YM)(l:U)(states:Int)(x9:U)(x10 x11:Int):y63_1 M l states x9 x10 x11=
 (if(decide (x11<x10))=true then
 (x9.idx 1 x11).bind fun v1=>
 (v1.cell 0).bind fun c2=>
 (c2.asI .i64).bind fun n3=>
 (y55 M n3 0 (IntKind.wrap .i64 (states - 1))).bind fun r4=>
 r4.toU.bind fun u5=>
 u5.asB.bind fun b6=>
 (y53 M (!b6) 3).bind fun r7=>
 r7.toU.bind fun u8=>
 (u8.asI .i64).bind fun n9=>
 (if(decide (0<x11))=true then
 (l.idx 1 (if 0>(IntKind.wrap .i64 (x11 - 1))then 0 else(IntKind.wrap .i64 (x11 - 1)))).bind fun v10=>
 (v10.cell 0).bind fun c11=>
 (c11.asI .i64).bind fun n12=>
 some (decide (n3<=n12))
 else
 some (decide (0<x11))).bind fun q13=>
 (y53 M q13 13).bind fun r14=>
 r14.toU.bind fun u15=>
 (u15.asI .i64).bind fun n16=>
 (y52 M (Sx.fz (⟨true,1,[.c (.int .i64 n9), .c (.int .i64 n16)]⟩:Sx))).bind fun r17=>
 r17.toU.bind fun u18=>
 (u18.asI .i64).bind fun n19=>
 (if(!decide (n19=0))=true then
 some (.tup [.c (.int .i64 x11), .c (.int .i64 n19)])
 else
 y63_1 M l states x9 x10 (IntKind.wrap .i64 (x11+1)))
 else
 some (.tup [.c (.int .i64 0), .c (.int .i64 0)])):=yq (by kernel_rfl)
theorem w1q(M:YM)(a_0:Int)(a_1 a_2 a_3 l:U)(i:Int):y65 M a_0 a_1 a_2 a_3 l i=
 (l.idx 1 i).bind fun v1=>
 (v1.cell 0).bind fun c2=>
 (c2.asI .i64).bind fun n3=>
 (y41 M n3 0 (IntKind.wrap .i64 (a_0 - 1))).bind fun r4=>
 r4.toU.bind fun u5=>
 u5.asB.bind fun b6=>
 (if(!b6)=true then
 some (.val (.c (.int .i64 3)))
 else
 (if(decide (0<i))=true then
 (l.idx 1 i).bind fun v7=>
 (l.idx 1 (IntKind.wrap .i64 (i - 1))).bind fun v8=>
 (v7.cell 0).bind fun c9=>
 (c9.asI .i64).bind fun n10=>
 (v8.cell 0).bind fun c11=>
 (c11.asI .i64).bind fun n12=>
 some (decide (n10<=n12))
 else
 some (decide (0<i))).bind fun q13=>
 (if q13=true then
 some (.val (.c (.int .i64 13)))
 else
 some (.val (.c (.int .i64 0))))):=yq (by kernel_rfl)
theorem w1r(M:YM)(a b:U):y67 M a b=
 a.len.bind fun k1=>
 b.len.bind fun k2=>
 (if(!decide (((k1:Nat):Int)=((k2:Nat):Int)))=true then
 some (.val (.c (.bool false)))
 else
 y67_1 M a b 0):=yq (by kernel_rfl)
theorem j1f(M:YM)(a b:U)(i:Int):y67_1 M a b i=
 a.len.bind fun k1=>
 (if(decide (i<((k1:Nat):Int)))=true then
 (a.idx 1 i).bind fun v2=>
 (b.idx 1 i).bind fun v3=>
 (v2.cell 0).bind fun c4=>
 (v3.cell 0).bind fun c5=>
 (y31 M c4 c5).bind fun r6=>
 r6.toU.bind fun u7=>
 u7.asB.bind fun b8=>
 (if(!b8)=true then
 some (.val (.c (.bool false)))
 else
 y67_1 M a b (IntKind.wrap .i64 (i+1)))
 else
 some (.val (.c (.bool true)))):=yq (by kernel_rfl)
theorem w1s(M:YM)(s t:Int)(x2:U):y68 M s t x2=
 x2.asR.bind fun a1=>
 (U.cell a1.1 a1.2).bind fun c2=>
 (c2.asI .i64).bind fun n3=>
 some (.val (.c (.int .i64 (IntKind.wrap .i64 ((IntKind.wrap .i64 (s*n3))+t))))):=yq (by kernel_rfl)
theorem w1t(M:YM)(x_0 x_1 x_2 x_3:Int):y69 M x_0 x_1 x_2 x_3=
 some (.val (.c (.bool (decide ((bitI .and .i64 x_2 x_3)=0))))):=yq (by kernel_rfl)
theorem w1u(M:YM)(a_0:Int)(a_1 a_2 a_3:U):y70 M a_0 a_1 a_2 a_3=
 (if(decide (300<a_0))=false then
 a_2.len.bind fun k1=>
 some (decide (6000<((k1:Nat):Int)))
 else
 some (decide (300<a_0))).bind fun q2=>
 (if q2=false then
 a_3.len.bind fun k3=>
 some (decide (8<((k3:Nat):Int)))
 else
 some q2).bind fun q4=>
 (if q4=true then
 some (.tup [.st [.c (.int .i64 0),Sx.fz (⟨false,0,[]⟩:Sx),Sx.fz (⟨false,0,[]⟩:Sx),Sx.fz (⟨false,0,[]⟩:Sx)], .c (.int .i64 2)])
 else
 some (.tup [.st [.c (.int .i64 a_0),a_1,a_2,a_3], .c (.int .i64 0)])):=yq (by kernel_rfl)
theorem w1v(M:YM)(s level:Int)(x2:U):y71 M s level x2=
 x2.asR.bind fun a1=>
 (U.cell a1.1 a1.2).bind fun c2=>
 (c2.asI .i64).bind fun n3=>
 some (.val (.c (.int .i64 (IntKind.wrap .i64 ((IntKind.wrap .i64 (s*n3))+level))))):=yq (by kernel_rfl)
theorem w1w(M:YM)(letter atom:Int):y81 M letter atom=
 (if atom<0 then
 none
 else
 some (.val (.c (.bool (decide ((Int.tmod (shI .shr .i64 letter atom) 2)=1)))))):=yq (by kernel_rfl)
theorem w1x(M:YM)(before vin vset:U):y83 M before vin vset=
 vin.len.bind fun k1=>
 (if 0<=((k1:Nat):Int)/\((k1:Nat):Int)<=2 ^ 36/\1=1 then
 y83_1 M before vin vset 0 (⟨true,1,List.replicate ((k1:Nat):Int).toNat (.c (.bool false))⟩:Sx) (⟨false,0,[]⟩:Sx)
 else
 none):=yq (by kernel_rfl)
theorem K0k(M:YM)(before vin vset:U)(i:Int)(out vopen:Sx):y83_1 M before vin vset i out vopen=
 vin.len.bind fun k1=>
 (if(decide (i<((k1:Nat):Int)))=true then
 (vin.idx 1 i).bind fun v2=>
 (v2.cell 0).bind fun c3=>
 c3.asB.bind fun b4=>
 (if b4=true then
 (vset.idx 1 i).bind fun v5=>
 (v5.cell 0).bind fun c6=>
 c6.asB.bind fun b7=>
 some b7
 else
 some b4).bind fun q8=>
 (if q8=true then
 (Sx.app vopen 1 ([.c (.int .i64 i)])).bind fun s9=>
 y83_2 M before vin vset i out s9
 else
 y83_2 M before vin vset i out vopen)
 else
 y83_3 M before vin out vopen):=yq (by kernel_rfl)
theorem j1g(M:YM)(before vin vset:U)(i:Int)(out vopen:Sx):y83_2 M before vin vset i out vopen=
 y83_1 M before vin vset (IntKind.wrap .i64 (i+1)) out vopen:=yq (by kernel_rfl)
theorem K0l(M:YM)(before vin:U)(out vopen:Sx):y83_3 M before vin out vopen=
 (if(decide (0<(((vopen.es).length:Nat):Int)))=true then
 (if Sx.has vopen 1 (IntKind.wrap .i64 ((((vopen.es).length:Nat):Int) - 1))=true then
 ((vopen.es)[(IntKind.wrap .i64 ((((vopen.es).length:Nat):Int) - 1)).toNat]?).bind fun v1=>
 (v1.cell 0).bind fun c2=>
 (c2.asI .i64).bind fun n3=>
 (if vopen.sz=1/\vopen.b=true then
 (subU 1 vopen.es 0 (some (IntKind.wrap .i64 ((((vopen.es).length:Nat):Int) - 1)))).bind fun l4=>
 y83_4 M before vin n3 0 out (Sx.win vopen ((0:Int).toNat) l4.length)
 else
 none)
 else
 none)
 else
 (if scals out.es=true then
 some (.sl out)
 else
 none)):=yq (by kernel_rfl)
theorem K0m(M:YM)(before vin:U)(x k:Int)(out vopen:Sx):y83_4 M before vin x k out vopen=
 (before.idx 1 x).bind fun v1=>
 (v1.cell 0).bind fun c2=>
 c2.len.bind fun k3=>
 (if(decide (k<((k3:Nat):Int)))=true then
 (before.idx 1 x).bind fun v4=>
 (v4.cell 0).bind fun c5=>
 (c5.idx 1 k).bind fun v6=>
 (v6.cell 0).bind fun c7=>
 (c7.asI .i64).bind fun n8=>
 (vin.idx 1 n8).bind fun v9=>
 (v9.cell 0).bind fun c10=>
 c10.asB.bind fun b11=>
 (if b11=true then
 (if Sx.has out 1 n8=true then
 ((out.es)[n8.toNat]?).bind fun v12=>
 (v12.cell 0).bind fun c13=>
 c13.asB.bind fun b14=>
 some (!b14)
 else
 none)
 else
 some b11).bind fun q15=>
 (if q15=true then
 (if Sx.has out 1 n8=true then
 (Sx.put out 1 n8.toNat 0 (.c (.bool true))).bind fun s16=>
 (Sx.app vopen 1 ([.c (.int .i64 n8)])).bind fun s17=>
 y83_5 M before vin x k s16 s17
 else
 none)
 else
 y83_5 M before vin x k out vopen)
 else
 y83_3 M before vin out vopen):=yq (by kernel_rfl)
theorem j1h(M:YM)(before vin:U)(x k:Int)(out vopen:Sx):y83_5 M before vin x k out vopen=
 y83_4 M before vin x (IntKind.wrap .i64 (k+1)) out vopen:=yq (by kernel_rfl)
theorem w1y(M:YM)(s:U)(v:Int):y90 M s v=
 s.len.bind fun k1=>
 y90_1 M s v ((k1:Nat):Int) 0:=yq (by kernel_rfl)
theorem K0n(M:YM)(s:U)(v x7 x8:Int):y90_1 M s v x7 x8=
 (if(decide (x8<x7))=true then
 (s.idx 1 x8).bind fun v1=>
 (v1.cell 0).bind fun c2=>
 (c2.asI .i64).bind fun n3=>
 (if(decide (v=n3))=true then
 some (.val (.c (.int .i64 x8)))
 else
 y90_1 M s v x7 (IntKind.wrap .i64 (x8+1)))
 else
 some (.val (.c (.int .i64 (-1))))):=yq (by kernel_rfl)
end
end Go.Proofs.Ytglkhoamnmiolaa.R
