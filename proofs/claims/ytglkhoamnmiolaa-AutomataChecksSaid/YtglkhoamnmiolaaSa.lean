/- - -/
import Derived.Test.YtglkhoamnmiolaaRa
import Derived.Test.YtglkhoamnmiolaaE9
set_option linter.all false
namespace Go.Proofs.Ytglkhoamnmiolaa.R
open Go Go.Proofs.Ytglkhoamnmiolaa.Vm
def seenC(H:Heap)(i o:Nat)(kd:K0)(u:V):Bool:=match(H.ld i o).bind fun x=>kd.take x fun y=>some (V.c y)with
 |some v=>eqV v u
 |none=>false
def ez(n:Nat)(l:List (Nat×T)):Env:=(List.range n).map fun p=>(l.lookup p).getD .poison
noncomputable def mrun(M:Mach):RunT:=Vm.run M.ext (progOf 8 prog M.out) M.lim
noncomputable def mcall(M:Mach)(f:FuncId)(vs:List V)(H:Heap):Rs:=mrun M f 0 (vs.map .val) H
noncomputable def f40(M:Mach)(a_0:Int)(a_1:C)(a_2:C)(a_3:C)(H:Heap):Rs:=mrun M 40 0 [.val (.agg [(.int .i64 a_0),a_1,a_2,a_3])] H
noncomputable def f40_1(M:Mach)(a_0:Int)(a_1:C)(a_2:C)(a_3:C)(next:C)(i:Int)(H:Heap):Rs:=mrun M 40 1 (ez 86 [(1, .loc [(.int .i64 a_0),a_1,a_2,a_3]),(3, .val (.c next)),(4, .val (.c (.int .i64 i)))]) H
noncomputable def f40_2(M:Mach)(a_0:Int)(a_1:C)(a_2:C)(a_3:C)(next:C)(i:Int)(H:Heap):Rs:=mrun M 40 2 (ez 86 [(1, .loc [(.int .i64 a_0),a_1,a_2,a_3]),(3, .val (.c next)),(4, .val (.c (.int .i64 i)))]) H
noncomputable def f40_3(M:Mach)(a_0:Int)(a_1:C)(a_2:C)(a_3:C)(next:C)(sets:C)(k:Int)(H:Heap):Rs:=mrun M 40 3 (ez 86 [(1, .loc [(.int .i64 a_0),a_1,a_2,a_3]),(3, .val (.c next)),(6, .val (.c sets)),(7, .val (.c (.int .i64 k)))]) H
noncomputable def f40_4(M:Mach)(a_0:Int)(a_1:C)(a_2:C)(a_3:C)(vin:C)(reached:C)(i:Int)(H:Heap):Rs:=mrun M 40 4 (ez 86 [(1, .loc [(.int .i64 a_0),a_1,a_2,a_3]),(8, .val (.c vin)),(9, .val (.c reached)),(10, .val (.c (.int .i64 i)))]) H
noncomputable def f64(M:Mach)(a_0:Int)(a_1:C)(a_2:C)(a_3:C)(H:Heap):Rs:=mrun M 64 0 [.val (.agg [(.int .i64 a_0),a_1,a_2,a_3])] H
noncomputable def f64_1(M:Mach)(a_0:Int)(a_1:C)(a_2:C)(a_3:C)(x2_0:Int)(x2_1:C)(x2_2:C)(x2_3:C)(g:C)(ends:C)(against:C)(x37:C)(x38:Int)(x39:Int)(H:Heap):Rs:=mrun M 64 1 (ez 177 [(1, .loc [(.int .i64 a_0),a_1,a_2,a_3]),(2, .loc [(.int .i64 x2_0),x2_1,x2_2,x2_3]),(4, .val (.c g)),(6, .val (.c ends)),(7, .val (.c against)),(37, .val (.c x37)),(38, .val (.c (.int .i64 x38))),(39, .val (.c (.int .i64 x39)))]) H
noncomputable def f64_2(M:Mach)(a_0:Int)(a_1:C)(a_2:C)(a_3:C)(x2_0:Int)(x2_1:C)(x2_2:C)(x2_3:C)(g:C)(ends:C)(against:C)(v:Int)(x37:C)(x38:Int)(x39:Int)(x44:C)(x45:Int)(x46:Int)(H:Heap):Rs:=mrun M 64 2 (ez 177 [(1, .loc [(.int .i64 a_0),a_1,a_2,a_3]),(2, .loc [(.int .i64 x2_0),x2_1,x2_2,x2_3]),(4, .val (.c g)),(6, .val (.c ends)),(7, .val (.c against)),(8, .val (.c (.int .i64 v))),(37, .val (.c x37)),(38, .val (.c (.int .i64 x38))),(39, .val (.c (.int .i64 x39))),(44, .val (.c x44)),(45, .val (.c (.int .i64 x45))),(46, .val (.c (.int .i64 x46)))]) H
noncomputable def f64_3(M:Mach)(a_0:Int)(a_1:C)(a_2:C)(a_3:C)(x2_0:Int)(x2_1:C)(x2_2:C)(x2_3:C)(g:C)(ends:C)(begins:C)(x69:C)(x70:Int)(x71:Int)(H:Heap):Rs:=mrun M 64 3 (ez 177 [(1, .loc [(.int .i64 a_0),a_1,a_2,a_3]),(2, .loc [(.int .i64 x2_0),x2_1,x2_2,x2_3]),(4, .val (.c g)),(6, .val (.c ends)),(12, .val (.c begins)),(69, .val (.c x69)),(70, .val (.c (.int .i64 x70))),(71, .val (.c (.int .i64 x71)))]) H
noncomputable def f64_4(M:Mach)(a_0:Int)(a_1:C)(a_2:C)(a_3:C)(x2_0:Int)(x2_1:C)(x2_2:C)(x2_3:C)(ends:C)(begins:C)(number:C)(old:C)(x87:Int)(x88:Int)(H:Heap):Rs:=mrun M 64 4 (ez 177 [(1, .loc [(.int .i64 a_0),a_1,a_2,a_3]),(2, .loc [(.int .i64 x2_0),x2_1,x2_2,x2_3]),(6, .val (.c ends)),(12, .val (.c begins)),(15, .val (.c number)),(16, .val (.c old)),(87, .val (.c (.int .i64 x87))),(88, .val (.c (.int .i64 x88)))]) H
noncomputable def f64_5(M:Mach)(a_0:Int)(a_1:C)(a_2:C)(a_3:C)(x2_0:Int)(x2_1:C)(x2_2:C)(x2_3:C)(ends:C)(begins:C)(number:C)(old:C)(x87:Int)(x88:Int)(H:Heap):Rs:=mrun M 64 5 (ez 177 [(1, .loc [(.int .i64 a_0),a_1,a_2,a_3]),(2, .loc [(.int .i64 x2_0),x2_1,x2_2,x2_3]),(6, .val (.c ends)),(12, .val (.c begins)),(15, .val (.c number)),(16, .val (.c old)),(87, .val (.c (.int .i64 x87))),(88, .val (.c (.int .i64 x88)))]) H
noncomputable def f64_6(M:Mach)(a_0:Int)(a_1:C)(a_2:C)(a_3:C)(x2_0:Int)(x2_1:C)(x2_2:C)(x2_3:C)(number:C)(old:C)(kept:C)(out_0:Int)(out_1:C)(out_2:C)(out_3:C)(x120:C)(x121:Int)(x122:Int)(H:Heap):Rs:=mrun M 64 6 (ez 177 [(1, .loc [(.int .i64 a_0),a_1,a_2,a_3]),(2, .loc [(.int .i64 x2_0),x2_1,x2_2,x2_3]),(15, .val (.c number)),(16, .val (.c old)),(18, .val (.c kept)),(19, .loc [(.int .i64 out_0),out_1,out_2,out_3]),(120, .val (.c x120)),(121, .val (.c (.int .i64 x121))),(122, .val (.c (.int .i64 x122)))]) H
noncomputable def f64_7(M:Mach)(a_0:Int)(a_1:C)(a_2:C)(a_3:C)(x2_0:Int)(x2_1:C)(x2_2:C)(x2_3:C)(number:C)(old:C)(kept:C)(out_0:Int)(out_1:C)(out_2:C)(out_3:C)(x120:C)(x121:Int)(x122:Int)(H:Heap):Rs:=mrun M 64 7 (ez 177 [(1, .loc [(.int .i64 a_0),a_1,a_2,a_3]),(2, .loc [(.int .i64 x2_0),x2_1,x2_2,x2_3]),(15, .val (.c number)),(16, .val (.c old)),(18, .val (.c kept)),(19, .loc [(.int .i64 out_0),out_1,out_2,out_3]),(120, .val (.c x120)),(121, .val (.c (.int .i64 x121))),(122, .val (.c (.int .i64 x122)))]) H
noncomputable def f64_8(M:Mach)(x2_0:Int)(x2_1:C)(x2_2:C)(x2_3:C)(old:C)(kept:C)(out_0:Int)(out_1:C)(out_2:C)(out_3:C)(x160:C)(x161:Int)(x162:Int)(H:Heap):Rs:=mrun M 64 8 (ez 177 [(2, .loc [(.int .i64 x2_0),x2_1,x2_2,x2_3]),(16, .val (.c old)),(18, .val (.c kept)),(19, .loc [(.int .i64 out_0),out_1,out_2,out_3]),(160, .val (.c x160)),(161, .val (.c (.int .i64 x161))),(162, .val (.c (.int .i64 x162)))]) H
noncomputable def f72(M:Mach)(a_0:Int)(a_1:C)(a_2:C)(a_3:C)(H:Heap):Rs:=mrun M 72 0 [.val (.agg [(.int .i64 a_0),a_1,a_2,a_3])] H
noncomputable def f72_1(M:Mach)(a_0:Int)(a_1:C)(a_2:C)(a_3:C)(g:C)(x14:C)(x15:Int)(x16:Int)(H:Heap):Rs:=mrun M 72 1 (ez 53 [(1, .loc [(.int .i64 a_0),a_1,a_2,a_3]),(4, .val (.c g)),(14, .val (.c x14)),(15, .val (.c (.int .i64 x15))),(16, .val (.c (.int .i64 x16)))]) H
noncomputable def f72_2(M:Mach)(a_0:Int)(a_1:C)(a_2:C)(a_3:C)(g:C)(x14:C)(x15:Int)(x16:Int)(H:Heap):Rs:=mrun M 72 2 (ez 53 [(1, .loc [(.int .i64 a_0),a_1,a_2,a_3]),(4, .val (.c g)),(14, .val (.c x14)),(15, .val (.c (.int .i64 x15))),(16, .val (.c (.int .i64 x16)))]) H
noncomputable def f72_3(M:Mach)(a_0:Int)(a_1:C)(a_2:C)(a_3:C)(g:C)(sets:C)(x37:C)(x38:Int)(x39:Int)(H:Heap):Rs:=mrun M 72 3 (ez 53 [(1, .loc [(.int .i64 a_0),a_1,a_2,a_3]),(4, .val (.c g)),(7, .val (.c sets)),(37, .val (.c x37)),(38, .val (.c (.int .i64 x38))),(39, .val (.c (.int .i64 x39)))]) H
noncomputable def f82(M:Mach)(next:C)(H:Heap):Rs:=mrun M 82 0 [.val (.c next)] H
noncomputable def f82_1(M:Mach)(next:C)(out:C)(i:Int)(H:Heap):Rs:=mrun M 82 1 (ez 47 [(0, .val (.c next)),(3, .val (.c out)),(4, .val (.c (.int .i64 i)))]) H
noncomputable def f82_2(M:Mach)(next:C)(out:C)(i:Int)(k:Int)(H:Heap):Rs:=mrun M 82 2 (ez 47 [(0, .val (.c next)),(3, .val (.c out)),(4, .val (.c (.int .i64 i))),(5, .val (.c (.int .i64 k)))]) H
noncomputable def f93(M:Mach)(g:C)(H:Heap):Rs:=mrun M 93 0 [.val (.c g)] H
noncomputable def f93_1(M:Mach)(c:C)(x19:Int)(x20:Int)(H:Heap):Rs:=mrun M 93 1 (ez 39 [(3, .val (.c c)),(19, .val (.c (.int .i64 x19))),(20, .val (.c (.int .i64 x20)))]) H
noncomputable def f93_2(M:Mach)(c:C)(x19:Int)(x20:Int)(H:Heap):Rs:=mrun M 93 2 (ez 39 [(3, .val (.c c)),(19, .val (.c (.int .i64 x19))),(20, .val (.c (.int .i64 x20)))]) H
noncomputable def f94(M:Mach)(g:C)(marked:C)(H:Heap):Rs:=mrun M 94 0 [.val (.c g), .val (.c marked)] H
noncomputable def f94_1(M:Mach)(g:C)(marked:C)(queue:C)(x10:C)(x11:Int)(x12:Int)(H:Heap):Rs:=mrun M 94 1 (ez 53 [(0, .val (.c g)),(1, .val (.c marked)),(4, .val (.c queue)),(10, .val (.c x10)),(11, .val (.c (.int .i64 x11))),(12, .val (.c (.int .i64 x12)))]) H
noncomputable def f94_2(M:Mach)(g:C)(marked:C)(queue:C)(x10:C)(x11:Int)(x12:Int)(H:Heap):Rs:=mrun M 94 2 (ez 53 [(0, .val (.c g)),(1, .val (.c marked)),(4, .val (.c queue)),(10, .val (.c x10)),(11, .val (.c (.int .i64 x11))),(12, .val (.c (.int .i64 x12)))]) H
noncomputable def f94_3(M:Mach)(g:C)(marked:C)(queue:C)(H:Heap):Rs:=mrun M 94 3 (ez 53 [(0, .val (.c g)),(1, .val (.c marked)),(4, .val (.c queue))]) H
noncomputable def f94_4(M:Mach)(g:C)(marked:C)(queue:C)(x34:C)(x35:Int)(x36:Int)(H:Heap):Rs:=mrun M 94 4 (ez 53 [(0, .val (.c g)),(1, .val (.c marked)),(4, .val (.c queue)),(34, .val (.c x34)),(35, .val (.c (.int .i64 x35))),(36, .val (.c (.int .i64 x36)))]) H
noncomputable def f94_5(M:Mach)(g:C)(marked:C)(queue:C)(x34:C)(x35:Int)(x36:Int)(H:Heap):Rs:=mrun M 94 5 (ez 53 [(0, .val (.c g)),(1, .val (.c marked)),(4, .val (.c queue)),(34, .val (.c x34)),(35, .val (.c (.int .i64 x35))),(36, .val (.c (.int .i64 x36)))]) H
noncomputable def f95(M:Mach)(x:C)(count:Int)(H:Heap):Rs:=mrun M 95 0 [.val (.c x), .val (.c (.int .i64 count))] H
noncomputable def f95_1(M:Mach)(x:C)(count:Int)(H:Heap):Rs:=mrun M 95 1 (ez 48 [(0, .val (.c x)),(1, .val (.c (.int .i64 count)))]) H
noncomputable def f95_2(M:Mach)(x:C)(lo:Int)(H:Heap):Rs:=mrun M 95 2 (ez 48 [(0, .val (.c x)),(6, .val (.c (.int .u64 lo)))]) H
noncomputable def f95_3(M:Mach)(newslice:C)(n:Int)(H:Heap):Rs:=mrun M 95 3 (ez 48 [(7, .val (.c newslice)),(8, .val (.c (.int .i64 n)))]) H
noncomputable def f109(M:Mach)(c:C)(v:Int)(H:Heap):Rs:=mrun M 109 0 [.val (.c c), .val (.c (.int .i64 v))] H
noncomputable def f109_1(M:Mach)(c:C)(v:Int)(x51:C)(x52:Int)(x53:Int)(H:Heap):Rs:=mrun M 109 1 (ez 178 [(0, .val (.c c)),(1, .val (.c (.int .i64 v))),(51, .val (.c x51)),(52, .val (.c (.int .i64 x52))),(53, .val (.c (.int .i64 x53)))]) H
noncomputable def f109_2(M:Mach)(c:C)(v:Int)(x51:C)(x52:Int)(x53:Int)(H:Heap):Rs:=mrun M 109 2 (ez 178 [(0, .val (.c c)),(1, .val (.c (.int .i64 v))),(51, .val (.c x51)),(52, .val (.c (.int .i64 x52))),(53, .val (.c (.int .i64 x53)))]) H
noncomputable def f109_3(M:Mach)(c:C)(v:Int)(x51:C)(x52:Int)(x53:Int)(H:Heap):Rs:=mrun M 109 3 (ez 178 [(0, .val (.c c)),(1, .val (.c (.int .i64 v))),(51, .val (.c x51)),(52, .val (.c (.int .i64 x52))),(53, .val (.c (.int .i64 x53)))]) H
noncomputable def f109_4(M:Mach)(c:C)(v:Int)(H:Heap):Rs:=mrun M 109 4 (ez 178 [(0, .val (.c c)),(1, .val (.c (.int .i64 v)))]) H
noncomputable def f110(M:Mach)(x:Int)(y:Int)(H:Heap):Rs:=mrun M 110 0 [.val (.c (.int .u64 x)), .val (.c (.int .u64 y))] H
noncomputable def f44(M:Mach)(next:C)(sets:C)(H:Heap):Rs:=mrun M 44 0 [.val (.c next), .val (.c sets)] H
noncomputable def f69(M:Mach)(x_0:Int)(x_1:Int)(x_2:Int)(x_3:Int)(H:Heap):Rs:=mrun M 69 0 [.val (.agg [(.int .i64 x_0),(.int .i64 x_1),(.int .i64 x_2),(.int .i64 x_3)])] H
noncomputable def f78(M:Mach)(x_0:Int)(x_1:Int)(x_2:Int)(x_3:Int)(H:Heap):Rs:=mrun M 78 0 [.val (.agg [(.int .i64 x_0),(.int .i64 x_1),(.int .i64 x_2),(.int .i64 x_3)])] H
noncomputable def f79(M:Mach)(n:Int)(l:C)(H:Heap):Rs:=mrun M 79 0 [.val (.c (.int .i64 n)), .val (.c l)] H
noncomputable def f80(M:Mach)(next:C)(vfrom:C)(H:Heap):Rs:=mrun M 80 0 [.val (.c next), .val (.c vfrom)] H
noncomputable def f85(M:Mach)(l:C)(nodes:Int)(stateOf:C)(H:Heap):Rs:=mrun M 85 0 [.val (.c l), .val (.c (.int .i64 nodes)), .val (.c stateOf)] H
noncomputable def f92(M:Mach)(g:C)(of:C)(sets:C)(H:Heap):Rs:=mrun M 92 0 [.val (.c g), .val (.c of), .val (.c sets)] H
noncomputable def f96(M:Mach)(l:C)(x1:C)(H:Heap):Rs:=mrun M 96 0 [.val (.c l), .val (.c x1)] H
theorem J1a(M:Mach)(a_0:Int)(a_1:C)(a_2:C)(a_3:C)(H:Heap):f40 M a_0 a_1 a_2 a_3 H=
 (if 0<=a_0/\a_0<=2 ^ 36 then
 let H1:=Heap.alloc H (.cells 1 (List.replicate (Int.toNat a_0) [.nilSlice]).flatten)
 f40_1 M a_0 a_1 a_2 a_3 (.slice H.next 0 (Int.toNat a_0)) 0 H1
 else
 none):=by
 unfold f40 mrun;rw[q0j];kernel_rfl
theorem Q0R(M:Mach)(a_0:Int)(a_1:C)(a_2:C)(a_3:C)(next:C)(i:Int)(H:Heap):f40_1 M a_0 a_1 a_2 a_3 next i H=
 (C.len a_2).bind fun k1=>
 (if(decide (i<((k1:Nat):Int)))=true then
 (C.elem 4 a_2 i).bind fun q2=>
 (Heap.ld H q2.1 q2.2).bind fun c3=>
 (C.asI .i64 c3).bind fun n4=>
 (Heap.ld H q2.1 (q2.2+1)).bind fun c5=>
 (C.asI .i64 c5).bind fun n6=>
 (Heap.ld H q2.1 ((q2.2+1)+1)).bind fun c7=>
 (C.asI .i64 c7).bind fun n8=>
 (Heap.ld H q2.1 (((q2.2+1)+1)+1)).bind fun c9=>
 (C.asI .i64 c9).bind fun n10=>
 (f78 M n4 n6 n8 n10 H).bind fun q11=>
 (V.asC q11.1).bind fun c12=>
 (C.asB c12).bind fun b13=>
 (if b13=true then
 (C.elem 1 next n4).bind fun q14=>
 (Heap.ld q11.2 q14.1 q14.2).bind fun c15=>
 let H16:=Heap.alloc q11.2 (.cells 1 [(.int .i64 n6)])
 (Heap.cellsOf H16 1 (.slice q11.2.next 0 1)).bind fun xs17=>
 (Heap.app M.lim H16 1 c15 xs17 1).bind fun q18=>
 (C.elem 1 next n4).bind fun q19=>
 (Heap.st M.lim q18.2 q19.1 q19.2 [q18.1]).bind fun H20=>
 f40_2 M a_0 a_1 a_2 a_3 next i H20
 else
 f40_2 M a_0 a_1 a_2 a_3 next i q11.2)
 else
 f40_3 M a_0 a_1 a_2 a_3 next .nilSlice 0 H):=by
 unfold f40_1 mrun;rw[q0j];kernel_rfl
theorem W0c(M:Mach)(a_0:Int)(a_1:C)(a_2:C)(a_3:C)(next:C)(i:Int)(H:Heap):f40_2 M a_0 a_1 a_2 a_3 next i H=
 f40_1 M a_0 a_1 a_2 a_3 next (IntKind.wrap .i64 (i+1)) H:=by
 unfold f40_2 mrun;rw[q0j];kernel_rfl
theorem W0d(M:Mach)(a_0:Int)(a_1:C)(a_2:C)(a_3:C)(next:C)(sets:C)(k:Int)(H:Heap):f40_3 M a_0 a_1 a_2 a_3 next sets k H=
 (C.len a_3).bind fun k1=>
 (if(decide (k<((k1:Nat):Int)))=true then
 (C.elem 1 a_3 k).bind fun q2=>
 (Heap.ld H q2.1 q2.2).bind fun c3=>
 (f79 M a_0 c3 H).bind fun q4=>
 (V.asC q4.1).bind fun c5=>
 let H6:=Heap.alloc q4.2 (.cells 1 [c5])
 (Heap.cellsOf H6 1 (.slice q4.2.next 0 1)).bind fun xs7=>
 (Heap.app M.lim H6 1 sets xs7 1).bind fun q8=>
 f40_3 M a_0 a_1 a_2 a_3 next q8.1 (IntKind.wrap .i64 (k+1)) q8.2
 else
 (f44 M next sets H).bind fun q9=>
 (V.asC q9.1).bind fun c10=>
 (f80 M next a_1 q9.2).bind fun q11=>
 (V.asC q11.1).bind fun c12=>
 f40_4 M a_0 a_1 a_2 a_3 c10 c12 0 q11.2):=by
 unfold f40_3 mrun;rw[q0j];kernel_rfl
theorem W0e(M:Mach)(a_0:Int)(a_1:C)(a_2:C)(a_3:C)(vin:C)(reached:C)(i:Int)(H:Heap):f40_4 M a_0 a_1 a_2 a_3 vin reached i H=
 (if(decide (i<a_0))=true then
 (C.elem 1 vin i).bind fun q1=>
 (Heap.ld H q1.1 q1.2).bind fun c2=>
 (C.asB c2).bind fun b3=>
 (if b3=true then
 (C.elem 1 reached i).bind fun q5=>
 (Heap.ld H q5.1 q5.2).bind fun c6=>
 (C.asB c6).bind fun b7=>
 some (b7,H)
 else
 some (b3,H)).bind fun q4=>
 (C.elem 1 vin i).bind fun q8=>
 (Heap.st M.lim q4.2 q8.1 q8.2 [(.bool q4.1)]).bind fun H9=>
 f40_4 M a_0 a_1 a_2 a_3 vin reached (IntKind.wrap .i64 (i+1)) H9
 else
 some ((.c vin),H)):=by
 unfold f40_4 mrun;rw[q0j];kernel_rfl
theorem J1b(M:Mach)(a_0:Int)(a_1:C)(a_2:C)(a_3:C)(H:Heap):f64 M a_0 a_1 a_2 a_3 H=
 (f72 M a_0 a_1 a_2 a_3 H).bind fun q1=>
 (V.ext q1.1 0).bind fun v2=>
 (V.asC v2).bind fun c3=>
 (V.ext q1.1 1).bind fun v4=>
 (V.asC v4).bind fun c5=>
 (f93 M c3 q1.2).bind fun q6=>
 (V.asC q6.1).bind fun c7=>
 (f92 M c3 c7 c5 q6.2).bind fun q8=>
 (V.asC q8.1).bind fun c9=>
 (C.len c3).bind fun k10=>
 (if 0<=((k10:Nat):Int)/\((k10:Nat):Int)<=2 ^ 36 then
 let H11:=Heap.alloc q8.2 (.cells 1 (List.replicate (Int.toNat ((k10:Nat):Int)) [.nilSlice]).flatten)
 (C.len c3).bind fun k12=>
 f64_1 M a_0 a_1 a_2 a_3 0 .nilSlice .nilSlice .nilSlice c3 c9 (.slice q8.2.next 0 (Int.toNat ((k10:Nat):Int))) c3 ((k12:Nat):Int) 0 H11
 else
 none):=by
 unfold f64 mrun;rw[q0j];kernel_rfl
theorem W0f(M:Mach)(a_0:Int)(a_1:C)(a_2:C)(a_3:C)(x2_0:Int)(x2_1:C)(x2_2:C)(x2_3:C)(g:C)(ends:C)(against:C)(x37:C)(x38:Int)(x39:Int)(H:Heap):f64_1 M a_0 a_1 a_2 a_3 x2_0 x2_1 x2_2 x2_3 g ends against x37 x38 x39 H=
 (if(decide (x39<x38))=true then
 (C.elem 1 x37 x39).bind fun q1=>
 (Heap.ld H q1.1 q1.2).bind fun c2=>
 (C.len c2).bind fun k3=>
 f64_2 M a_0 a_1 a_2 a_3 x2_0 x2_1 x2_2 x2_3 g ends against x39 x37 x38 x39 c2 ((k3:Nat):Int) 0 H
 else
 (f94 M against ends H).bind fun q4=>
 (C.len g).bind fun k5=>
 (if 0<=((k5:Nat):Int)/\((k5:Nat):Int)<=2 ^ 36 then
 let H6:=Heap.alloc q4.2 (.cells 1 (List.replicate (Int.toNat ((k5:Nat):Int)) [(.bool false)]).flatten)
 (C.len a_1).bind fun k7=>
 f64_3 M a_0 a_1 a_2 a_3 x2_0 x2_1 x2_2 x2_3 g ends (.slice q4.2.next 0 (Int.toNat ((k5:Nat):Int))) a_1 ((k7:Nat):Int) 0 H6
 else
 none)):=by
 unfold f64_1 mrun;rw[q0j];kernel_rfl
theorem W0g(M:Mach)(a_0:Int)(a_1:C)(a_2:C)(a_3:C)(x2_0:Int)(x2_1:C)(x2_2:C)(x2_3:C)(g:C)(ends:C)(against:C)(v:Int)(x37:C)(x38:Int)(x39:Int)(x44:C)(x45:Int)(x46:Int)(H:Heap):f64_2 M a_0 a_1 a_2 a_3 x2_0 x2_1 x2_2 x2_3 g ends against v x37 x38 x39 x44 x45 x46 H=
 (if(decide (x46<x45))=true then
 (C.elem 1 x44 x46).bind fun q1=>
 (Heap.ld H q1.1 q1.2).bind fun c2=>
 (C.asI .i64 c2).bind fun n3=>
 (C.elem 1 against n3).bind fun q4=>
 (Heap.ld H q4.1 q4.2).bind fun c5=>
 let H6:=Heap.alloc H (.cells 1 [(.int .i64 v)])
 (Heap.cellsOf H6 1 (.slice H.next 0 1)).bind fun xs7=>
 (Heap.app M.lim H6 1 c5 xs7 1).bind fun q8=>
 (C.elem 1 against n3).bind fun q9=>
 (Heap.st M.lim q8.2 q9.1 q9.2 [q8.1]).bind fun H10=>
 f64_2 M a_0 a_1 a_2 a_3 x2_0 x2_1 x2_2 x2_3 g ends against v x37 x38 x39 x44 x45 (IntKind.wrap .i64 (x46+1)) H10
 else
 f64_1 M a_0 a_1 a_2 a_3 x2_0 x2_1 x2_2 x2_3 g ends against x37 x38 (IntKind.wrap .i64 (x39+1)) H):=by
 unfold f64_2 mrun;rw[q0j];kernel_rfl
theorem W0h(M:Mach)(a_0:Int)(a_1:C)(a_2:C)(a_3:C)(x2_0:Int)(x2_1:C)(x2_2:C)(x2_3:C)(g:C)(ends:C)(begins:C)(x69:C)(x70:Int)(x71:Int)(H:Heap):f64_3 M a_0 a_1 a_2 a_3 x2_0 x2_1 x2_2 x2_3 g ends begins x69 x70 x71 H=
 (if(decide (x71<x70))=true then
 (C.elem 1 x69 x71).bind fun q1=>
 (Heap.ld H q1.1 q1.2).bind fun c2=>
 (C.asI .i64 c2).bind fun n3=>
 (C.elem 1 begins n3).bind fun q4=>
 (Heap.st M.lim H q4.1 q4.2 [(.bool true)]).bind fun H5=>
 f64_3 M a_0 a_1 a_2 a_3 x2_0 x2_1 x2_2 x2_3 g ends begins x69 x70 (IntKind.wrap .i64 (x71+1)) H5
 else
 (f94 M g begins H).bind fun q6=>
 let H7:=Heap.alloc q6.2 (.cells 1 [(.int .i64 (-1))])
 (C.len g).bind fun k8=>
 (f95 M (.slice q6.2.next 0 1) ((k8:Nat):Int) H7).bind fun q9=>
 (V.asC q9.1).bind fun c10=>
 let H11:=Heap.alloc q9.2 (.cells 1 [.nilSlice])
 (Heap.st M.lim H11 q9.2.next 0 [c10]).bind fun H12=>
 (C.len g).bind fun k13=>
 f64_4 M a_0 a_1 a_2 a_3 x2_0 x2_1 x2_2 x2_3 ends begins (.ptr q9.2.next 0) .nilSlice ((k13:Nat):Int) 0 H12):=by
 unfold f64_3 mrun;rw[q0j];kernel_rfl
theorem W0i(M:Mach)(a_0:Int)(a_1:C)(a_2:C)(a_3:C)(x2_0:Int)(x2_1:C)(x2_2:C)(x2_3:C)(ends:C)(begins:C)(number:C)(old:C)(x87:Int)(x88:Int)(H:Heap):f64_4 M a_0 a_1 a_2 a_3 x2_0 x2_1 x2_2 x2_3 ends begins number old x87 x88 H=
 (if(decide (x88<x87))=true then
 (C.elem 1 begins x88).bind fun q1=>
 (Heap.ld H q1.1 q1.2).bind fun c2=>
 (C.asB c2).bind fun b3=>
 (if b3=true then
 (C.elem 1 ends x88).bind fun q5=>
 (Heap.ld H q5.1 q5.2).bind fun c6=>
 (C.asB c6).bind fun b7=>
 some (b7,H)
 else
 some (b3,H)).bind fun q4=>
 (if q4.1=true then
 (V.asP (.c number)).bind fun a8=>
 (Heap.ld q4.2 a8.1 a8.2).bind fun c9=>
 (C.len old).bind fun k10=>
 (C.elem 1 c9 x88).bind fun q11=>
 (Heap.st M.lim q4.2 q11.1 q11.2 [(.int .i64 ((k10:Nat):Int))]).bind fun H12=>
 let H13:=Heap.alloc H12 (.cells 1 [(.int .i64 x88)])
 (Heap.cellsOf H13 1 (.slice H12.next 0 1)).bind fun xs14=>
 (Heap.app M.lim H13 1 old xs14 1).bind fun q15=>
 f64_5 M a_0 a_1 a_2 a_3 x2_0 x2_1 x2_2 x2_3 ends begins number q15.1 x87 x88 q15.2
 else
 f64_5 M a_0 a_1 a_2 a_3 x2_0 x2_1 x2_2 x2_3 ends begins number old x87 x88 q4.2)
 else
 (C.len old).bind fun k16=>
 (f96 M a_1 number H).bind fun q17=>
 (V.asC q17.1).bind fun c18=>
 (C.len a_2).bind fun k19=>
 f64_6 M a_0 a_1 a_2 a_3 x2_0 x2_1 x2_2 x2_3 number old (.func 96 [] [number]) ((k16:Nat):Int) c18 .nilSlice .nilSlice a_2 ((k19:Nat):Int) 0 q17.2):=by
 unfold f64_4 mrun;rw[q0j];kernel_rfl
theorem W0j(M:Mach)(a_0:Int)(a_1:C)(a_2:C)(a_3:C)(x2_0:Int)(x2_1:C)(x2_2:C)(x2_3:C)(ends:C)(begins:C)(number:C)(old:C)(x87:Int)(x88:Int)(H:Heap):f64_5 M a_0 a_1 a_2 a_3 x2_0 x2_1 x2_2 x2_3 ends begins number old x87 x88 H=
 f64_4 M a_0 a_1 a_2 a_3 x2_0 x2_1 x2_2 x2_3 ends begins number old x87 (IntKind.wrap .i64 (x88+1)) H:=by
 unfold f64_5 mrun;rw[q0j];kernel_rfl
theorem W0k(M:Mach)(a_0:Int)(a_1:C)(a_2:C)(a_3:C)(x2_0:Int)(x2_1:C)(x2_2:C)(x2_3:C)(number:C)(old:C)(kept:C)(out_0:Int)(out_1:C)(out_2:C)(out_3:C)(x120:C)(x121:Int)(x122:Int)(H:Heap):f64_6 M a_0 a_1 a_2 a_3 x2_0 x2_1 x2_2 x2_3 number old kept out_0 out_1 out_2 out_3 x120 x121 x122 H=
 (if(decide (x122<x121))=true then
 (C.elem 4 x120 x122).bind fun q1=>
 (Heap.ld H q1.1 q1.2).bind fun c2=>
 (C.asI .i64 c2).bind fun n3=>
 (Heap.ld H q1.1 (q1.2+1)).bind fun c4=>
 (C.asI .i64 c4).bind fun n5=>
 (Heap.ld H q1.1 ((q1.2+1)+1)).bind fun c6=>
 (C.asI .i64 c6).bind fun n7=>
 (Heap.ld H q1.1 (((q1.2+1)+1)+1)).bind fun c8=>
 (C.asI .i64 c8).bind fun n9=>
 (V.asP (.c number)).bind fun a10=>
 (Heap.ld H a10.1 a10.2).bind fun c11=>
 (C.elem 1 c11 n3).bind fun q12=>
 (Heap.ld H q12.1 q12.2).bind fun c13=>
 (C.asI .i64 c13).bind fun n14=>
 (if(!decide (n14=(-1)))=true then
 (V.asP (.c number)).bind fun a16=>
 (Heap.ld H a16.1 a16.2).bind fun c17=>
 (C.elem 1 c17 n5).bind fun q18=>
 (Heap.ld H q18.1 q18.2).bind fun c19=>
 (C.asI .i64 c19).bind fun n20=>
 some (!decide (n20=(-1)),H)
 else
 some (!decide (n14=(-1)),H)).bind fun q15=>
 (if q15.1=true then
 (V.asP (.c number)).bind fun a21=>
 (Heap.ld q15.2 a21.1 a21.2).bind fun c22=>
 (C.elem 1 c22 n3).bind fun q23=>
 (Heap.ld q15.2 q23.1 q23.2).bind fun c24=>
 (C.asI .i64 c24).bind fun n25=>
 (V.asP (.c number)).bind fun a26=>
 (Heap.ld q15.2 a26.1 a26.2).bind fun c27=>
 (C.elem 1 c27 n5).bind fun q28=>
 (Heap.ld q15.2 q28.1 q28.2).bind fun c29=>
 (C.asI .i64 c29).bind fun n30=>
 let H31:=Heap.alloc q15.2 (.cells 4 [(.int .i64 n25),(.int .i64 n30),(.int .i64 n7),(.int .i64 n9)])
 (Heap.cellsOf H31 4 (.slice q15.2.next 0 1)).bind fun xs32=>
 (Heap.app M.lim H31 4 out_2 xs32 1).bind fun q33=>
 f64_7 M a_0 a_1 a_2 a_3 x2_0 x2_1 x2_2 x2_3 number old kept out_0 out_1 q33.1 out_3 x120 x121 x122 q33.2
 else
 f64_7 M a_0 a_1 a_2 a_3 x2_0 x2_1 x2_2 x2_3 number old kept out_0 out_1 out_2 out_3 x120 x121 x122 q15.2)
 else
 (C.len a_3).bind fun k34=>
 f64_8 M x2_0 x2_1 x2_2 x2_3 old kept out_0 out_1 out_2 out_3 a_3 ((k34:Nat):Int) 0 H):=by
 unfold f64_6 mrun;rw[q0j];kernel_rfl
theorem W0l(M:Mach)(a_0:Int)(a_1:C)(a_2:C)(a_3:C)(x2_0:Int)(x2_1:C)(x2_2:C)(x2_3:C)(number:C)(old:C)(kept:C)(out_0:Int)(out_1:C)(out_2:C)(out_3:C)(x120:C)(x121:Int)(x122:Int)(H:Heap):f64_7 M a_0 a_1 a_2 a_3 x2_0 x2_1 x2_2 x2_3 number old kept out_0 out_1 out_2 out_3 x120 x121 x122 H=
 f64_6 M a_0 a_1 a_2 a_3 x2_0 x2_1 x2_2 x2_3 number old kept out_0 out_1 out_2 out_3 x120 x121 (IntKind.wrap .i64 (x122+1)) H:=by
 unfold f64_7 mrun;rw[q0j];kernel_rfl
theorem W0m(M:Mach)(x2_0:Int)(x2_1:C)(x2_2:C)(x2_3:C)(old:C)(kept:C)(out_0:Int)(out_1:C)(out_2:C)(out_3:C)(x160:C)(x161:Int)(x162:Int)(H:Heap):f64_8 M x2_0 x2_1 x2_2 x2_3 old kept out_0 out_1 out_2 out_3 x160 x161 x162 H=
 (if(decide (x162<x161))=true then
 (C.elem 1 x160 x162).bind fun q1=>
 (Heap.ld H q1.1 q1.2).bind fun c2=>
 (C.asF kept).bind fun g3=>
 (mcall M g3.1 (g3.2.1.map .c++[(.c c2)]++g3.2.2.map .c) H).bind fun q4=>
 (V.asC q4.1).bind fun c5=>
 let H6:=Heap.alloc q4.2 (.cells 1 [c5])
 (Heap.cellsOf H6 1 (.slice q4.2.next 0 1)).bind fun xs7=>
 (Heap.app M.lim H6 1 out_3 xs7 1).bind fun q8=>
 f64_8 M x2_0 x2_1 x2_2 x2_3 old kept out_0 out_1 out_2 q8.1 x160 x161 (IntKind.wrap .i64 (x162+1)) q8.2
 else
 some ((.tuple [(.agg [(.int .i64 out_0),out_1,out_2,out_3]),(.c old)]),H)):=by
 unfold f64_8 mrun;rw[q0j];kernel_rfl
theorem J1c(M:Mach)(a_0:Int)(a_1:C)(a_2:C)(a_3:C)(H:Heap):f72 M a_0 a_1 a_2 a_3 H=
 (if 0<=a_0/\a_0<=2 ^ 36 then
 let H1:=Heap.alloc H (.cells 1 (List.replicate (Int.toNat a_0) [.nilSlice]).flatten)
 (C.len a_2).bind fun k2=>
 f72_1 M a_0 a_1 a_2 a_3 (.slice H.next 0 (Int.toNat a_0)) a_2 ((k2:Nat):Int) 0 H1
 else
 none):=by
 unfold f72 mrun;rw[q0j];kernel_rfl
theorem Q0S(M:Mach)(a_0:Int)(a_1:C)(a_2:C)(a_3:C)(g:C)(x14:C)(x15:Int)(x16:Int)(H:Heap):f72_1 M a_0 a_1 a_2 a_3 g x14 x15 x16 H=
 (if(decide (x16<x15))=true then
 (C.elem 4 x14 x16).bind fun q1=>
 (Heap.ld H q1.1 q1.2).bind fun c2=>
 (C.asI .i64 c2).bind fun n3=>
 (Heap.ld H q1.1 (q1.2+1)).bind fun c4=>
 (C.asI .i64 c4).bind fun n5=>
 (Heap.ld H q1.1 ((q1.2+1)+1)).bind fun c6=>
 (C.asI .i64 c6).bind fun n7=>
 (Heap.ld H q1.1 (((q1.2+1)+1)+1)).bind fun c8=>
 (C.asI .i64 c8).bind fun n9=>
 (f69 M n3 n5 n7 n9 H).bind fun q10=>
 (V.asC q10.1).bind fun c11=>
 (C.asB c11).bind fun b12=>
 (if b12=true then
 (C.elem 1 g n3).bind fun q13=>
 (Heap.ld q10.2 q13.1 q13.2).bind fun c14=>
 let H15:=Heap.alloc q10.2 (.cells 1 [(.int .i64 n5)])
 (Heap.cellsOf H15 1 (.slice q10.2.next 0 1)).bind fun xs16=>
 (Heap.app M.lim H15 1 c14 xs16 1).bind fun q17=>
 (C.elem 1 g n3).bind fun q18=>
 (Heap.st M.lim q17.2 q18.1 q18.2 [q17.1]).bind fun H19=>
 f72_2 M a_0 a_1 a_2 a_3 g x14 x15 x16 H19
 else
 f72_2 M a_0 a_1 a_2 a_3 g x14 x15 x16 q10.2)
 else
 (C.len a_3).bind fun k20=>
 f72_3 M a_0 a_1 a_2 a_3 g .nilSlice a_3 ((k20:Nat):Int) 0 H):=by
 unfold f72_1 mrun;rw[q0j];kernel_rfl
theorem W0n(M:Mach)(a_0:Int)(a_1:C)(a_2:C)(a_3:C)(g:C)(x14:C)(x15:Int)(x16:Int)(H:Heap):f72_2 M a_0 a_1 a_2 a_3 g x14 x15 x16 H=
 f72_1 M a_0 a_1 a_2 a_3 g x14 x15 (IntKind.wrap .i64 (x16+1)) H:=by
 unfold f72_2 mrun;rw[q0j];kernel_rfl
theorem W0o(M:Mach)(a_0:Int)(a_1:C)(a_2:C)(a_3:C)(g:C)(sets:C)(x37:C)(x38:Int)(x39:Int)(H:Heap):f72_3 M a_0 a_1 a_2 a_3 g sets x37 x38 x39 H=
 (if(decide (x39<x38))=true then
 (C.elem 1 x37 x39).bind fun q1=>
 (Heap.ld H q1.1 q1.2).bind fun c2=>
 (f85 M c2 a_0 (.func 97 [] []) H).bind fun q3=>
 (V.asC q3.1).bind fun c4=>
 let H5:=Heap.alloc q3.2 (.cells 1 [c4])
 (Heap.cellsOf H5 1 (.slice q3.2.next 0 1)).bind fun xs6=>
 (Heap.app M.lim H5 1 sets xs6 1).bind fun q7=>
 f72_3 M a_0 a_1 a_2 a_3 g q7.1 x37 x38 (IntKind.wrap .i64 (x39+1)) q7.2
 else
 some ((.tuple [(.c g),(.c sets)]),H)):=by
 unfold f72_3 mrun;rw[q0j];kernel_rfl
theorem J1d(M:Mach)(next:C)(H:Heap):f82 M next H=
 (C.len next).bind fun k1=>
 (if 0<=((k1:Nat):Int)/\((k1:Nat):Int)<=2 ^ 36 then
 let H2:=Heap.alloc H (.cells 1 (List.replicate (Int.toNat ((k1:Nat):Int)) [.nilSlice]).flatten)
 f82_1 M next (.slice H.next 0 (Int.toNat ((k1:Nat):Int))) 0 H2
 else
 none):=by
 unfold f82 mrun;rw[q0j];kernel_rfl
theorem W0p(M:Mach)(next:C)(out:C)(i:Int)(H:Heap):f82_1 M next out i H=
 (C.len next).bind fun k1=>
 (if(decide (i<((k1:Nat):Int)))=true then
 f82_2 M next out i 0 H
 else
 some ((.c out),H)):=by
 unfold f82_1 mrun;rw[q0j];kernel_rfl
theorem W0q(M:Mach)(next:C)(out:C)(i:Int)(k:Int)(H:Heap):f82_2 M next out i k H=
 (C.elem 1 next i).bind fun q1=>
 (Heap.ld H q1.1 q1.2).bind fun c2=>
 (C.len c2).bind fun k3=>
 (if(decide (k<((k3:Nat):Int)))=true then
 (C.elem 1 next i).bind fun q4=>
 (C.elem 1 next i).bind fun q5=>
 (Heap.ld H q4.1 q4.2).bind fun c6=>
 (C.elem 1 c6 k).bind fun q7=>
 (Heap.ld H q7.1 q7.2).bind fun c8=>
 (C.asI .i64 c8).bind fun n9=>
 (Heap.ld H q5.1 q5.2).bind fun c10=>
 (C.elem 1 c10 k).bind fun q11=>
 (Heap.ld H q11.1 q11.2).bind fun c12=>
 (C.asI .i64 c12).bind fun n13=>
 (C.elem 1 out n13).bind fun q14=>
 (Heap.ld H q14.1 q14.2).bind fun c15=>
 let H16:=Heap.alloc H (.cells 1 [(.int .i64 i)])
 (Heap.cellsOf H16 1 (.slice H.next 0 1)).bind fun xs17=>
 (Heap.app M.lim H16 1 c15 xs17 1).bind fun q18=>
 (if seenC q18.2 q4.1 q4.2 .c (.c c6)=true then
 (if seenC q18.2 q7.1 q7.2 (.int .i64) (.c (.int .i64 n9))=true then
 (C.elem 1 out n9).bind fun q19=>
 (Heap.st M.lim q18.2 q19.1 q19.2 [q18.1]).bind fun H20=>
 f82_2 M next out i (IntKind.wrap .i64 (k+1)) H20
 else
 none)
 else
 none)
 else
 f82_1 M next out (IntKind.wrap .i64 (i+1)) H):=by
 unfold f82_2 mrun;rw[q0j];kernel_rfl
theorem J1e(M:Mach)(g:C)(H:Heap):f93 M g H=
 (C.len g).bind fun k1=>
 (C.len g).bind fun k2=>
 (C.len g).bind fun k3=>
 let H4:=Heap.alloc H (.cells 1 [(.int .i64 (-1))])
 (f95 M (.slice H.next 0 1) ((k3:Nat):Int) H4).bind fun q5=>
 (V.asC q5.1).bind fun c6=>
 (if 0<=((k1:Nat):Int)/\((k1:Nat):Int)<=2 ^ 36 then
 let H7:=Heap.alloc q5.2 (.cells 1 (List.replicate (Int.toNat ((k1:Nat):Int)) [(.int .i64 0)]).flatten)
 (if 0<=((k2:Nat):Int)/\((k2:Nat):Int)<=2 ^ 36 then
 let H8:=Heap.alloc H7 (.cells 1 (List.replicate (Int.toNat ((k2:Nat):Int)) [(.int .i64 0)]).flatten)
 let H9:=Heap.alloc H8 (.cells 7 [g,(.slice q5.2.next 0 (Int.toNat ((k1:Nat):Int))),(.slice H7.next 0 (Int.toNat ((k2:Nat):Int))),c6, .nilSlice,(.int .i64 0),(.int .i64 0)])
 (C.len g).bind fun k10=>
 f93_1 M (.ptr H8.next 0) ((k10:Nat):Int) 0 H9
 else
 none)
 else
 none):=by
 unfold f93 mrun;rw[q0j];kernel_rfl
theorem W0r(M:Mach)(c:C)(x19:Int)(x20:Int)(H:Heap):f93_1 M c x19 x20 H=
 (if(decide (x20<x19))=true then
 (withP c fun i1 o2=>
 (Heap.ld H i1 (o2+1)).bind fun c3=>
 (C.elem 1 c3 x20).bind fun q4=>
 (Heap.ld H q4.1 q4.2).bind fun c5=>
 (C.asI .i64 c5).bind fun n6=>
 (if(decide (n6=0))=true then
 (f109 M c x20 H).bind fun q7=>
 f93_2 M c x19 x20 q7.2
 else
 f93_2 M c x19 x20 H))
 else
 (withP c fun i8 o9=>
 (Heap.ld H i8 (o9+3)).bind fun c10=>
 some ((.c c10),H))):=by
 unfold f93_1 mrun;rw[q0j];kernel_rfl
theorem W0s(M:Mach)(c:C)(x19:Int)(x20:Int)(H:Heap):f93_2 M c x19 x20 H=
 f93_1 M c x19 (IntKind.wrap .i64 (x20+1)) H:=by
 unfold f93_2 mrun;rw[q0j];kernel_rfl
theorem J1f(M:Mach)(g:C)(marked:C)(H:Heap):f94 M g marked H=
 (C.len marked).bind fun k1=>
 f94_1 M g marked .nilSlice marked ((k1:Nat):Int) 0 H:=by
 unfold f94 mrun;rw[q0j];kernel_rfl
theorem W0t(M:Mach)(g:C)(marked:C)(queue:C)(x10:C)(x11:Int)(x12:Int)(H:Heap):f94_1 M g marked queue x10 x11 x12 H=
 (if(decide (x12<x11))=true then
 (C.elem 1 x10 x12).bind fun q1=>
 (Heap.ld H q1.1 q1.2).bind fun c2=>
 (C.asB c2).bind fun b3=>
 (if b3=true then
 let H4:=Heap.alloc H (.cells 1 [(.int .i64 x12)])
 (Heap.cellsOf H4 1 (.slice H.next 0 1)).bind fun xs5=>
 (Heap.app M.lim H4 1 queue xs5 1).bind fun q6=>
 f94_2 M g marked q6.1 x10 x11 x12 q6.2
 else
 f94_2 M g marked queue x10 x11 x12 H)
 else
 f94_3 M g marked queue H):=by
 unfold f94_1 mrun;rw[q0j];kernel_rfl
theorem W0u(M:Mach)(g:C)(marked:C)(queue:C)(x10:C)(x11:Int)(x12:Int)(H:Heap):f94_2 M g marked queue x10 x11 x12 H=
 f94_1 M g marked queue x10 x11 (IntKind.wrap .i64 (x12+1)) H:=by
 unfold f94_2 mrun;rw[q0j];kernel_rfl
theorem W0v(M:Mach)(g:C)(marked:C)(queue:C)(H:Heap):f94_3 M g marked queue H=
 (C.len queue).bind fun k1=>
 (if(decide (0<((k1:Nat):Int)))=true then
 (C.elem 1 queue 0).bind fun q2=>
 (Heap.ld H q2.1 q2.2).bind fun c3=>
 (C.asI .i64 c3).bind fun n4=>
 (Heap.sub M.lim H 1 queue 1 none).bind fun c5=>
 (C.elem 1 g n4).bind fun q6=>
 (Heap.ld H q6.1 q6.2).bind fun c7=>
 (C.len c7).bind fun k8=>
 f94_4 M g marked c5 c7 ((k8:Nat):Int) 0 H
 else
 some ((.tuple []),H)):=by
 unfold f94_3 mrun;rw[q0j];kernel_rfl
theorem W0w(M:Mach)(g:C)(marked:C)(queue:C)(x34:C)(x35:Int)(x36:Int)(H:Heap):f94_4 M g marked queue x34 x35 x36 H=
 (if(decide (x36<x35))=true then
 (C.elem 1 x34 x36).bind fun q1=>
 (Heap.ld H q1.1 q1.2).bind fun c2=>
 (C.asI .i64 c2).bind fun n3=>
 (C.elem 1 marked n3).bind fun q4=>
 (Heap.ld H q4.1 q4.2).bind fun c5=>
 (C.asB c5).bind fun b6=>
 (if(!b6)=true then
 (C.elem 1 marked n3).bind fun q7=>
 (Heap.st M.lim H q7.1 q7.2 [(.bool true)]).bind fun H8=>
 let H9:=Heap.alloc H8 (.cells 1 [(.int .i64 n3)])
 (Heap.cellsOf H9 1 (.slice H8.next 0 1)).bind fun xs10=>
 (Heap.app M.lim H9 1 queue xs10 1).bind fun q11=>
 f94_5 M g marked q11.1 x34 x35 x36 q11.2
 else
 f94_5 M g marked queue x34 x35 x36 H)
 else
 f94_3 M g marked queue H):=by
 unfold f94_4 mrun;rw[q0j];kernel_rfl
theorem W0x(M:Mach)(g:C)(marked:C)(queue:C)(x34:C)(x35:Int)(x36:Int)(H:Heap):f94_5 M g marked queue x34 x35 x36 H=
 f94_4 M g marked queue x34 x35 (IntKind.wrap .i64 (x36+1)) H:=by
 unfold f94_5 mrun;rw[q0j];kernel_rfl
theorem J1g(M:Mach)(x:C)(count:Int)(H:Heap):f95 M x count H=
 (if(decide (count<0))=true then
 none
 else
 f95_1 M x count H):=by
 unfold f95 mrun;rw[q0j];kernel_rfl
theorem j1Y(M:Mach)(x:C)(count:Int)(H:Heap):f95_1 M x count H=
 (C.len x).bind fun k1=>
 (f110 M (IntKind.wrap .u64 ((k1:Nat):Int)) (IntKind.wrap .u64 count) H).bind fun q2=>
 (V.ext q2.1 0).bind fun v3=>
 (V.asC v3).bind fun c4=>
 (C.asI .u64 c4).bind fun n5=>
 (V.ext q2.1 1).bind fun v6=>
 (V.asC v6).bind fun c7=>
 (C.asI .u64 c7).bind fun n8=>
 (if(decide (0<n5))=false then
 some (decide (9223372036854775807<n8),q2.2)
 else
 some (decide (0<n5),q2.2)).bind fun q9=>
 (if q9.1=true then
 none
 else
 f95_2 M x n8 q9.2):=by
 unfold f95_1 mrun;rw[q0j];kernel_rfl
theorem j1Z(M:Mach)(x:C)(lo:Int)(H:Heap):f95_2 M x lo H=
 (if 0<=(IntKind.wrap .i64 lo)/\(IntKind.wrap .i64 lo)<=2 ^ 36 then
 let H1:=Heap.alloc H (.cells 1 (List.replicate (Int.toNat (IntKind.wrap .i64 lo)) [(.int .i64 0)]).flatten)
 (Heap.cellsOf H1 1 x).bind fun xs2=>
 (C.len x).bind fun k3=>
 (Heap.copy M.lim H1 1 (.slice H.next 0 (Int.toNat (IntKind.wrap .i64 lo))) xs2 k3).bind fun q4=>
 f95_3 M (.slice H.next 0 (Int.toNat (IntKind.wrap .i64 lo))) ((q4.1:Nat):Int) q4.2
 else
 none):=by
 unfold f95_2 mrun;rw[q0j];kernel_rfl
theorem w0j(M:Mach)(newslice:C)(n:Int)(H:Heap):f95_3 M newslice n H=
 (C.len newslice).bind fun k1=>
 (if(decide (n<((k1:Nat):Int)))=true then
 (Heap.sub M.lim H 1 newslice n none).bind fun c2=>
 (Heap.sub M.lim H 1 newslice 0 (some n)).bind fun c3=>
 (Heap.cellsOf H 1 c3).bind fun xs4=>
 (C.len c3).bind fun k5=>
 (Heap.copy M.lim H 1 c2 xs4 k5).bind fun q6=>
 f95_3 M newslice (IntKind.wrap .i64 (n+((q6.1:Nat):Int))) q6.2
 else
 some ((.c newslice),H)):=by
 unfold f95_3 mrun;rw[q0j];kernel_rfl
theorem w1z(M:Mach)(c:C)(v:Int)(H:Heap):f109 M c v H=
 (withP c fun i1 o2=>
 (Heap.ld H i1 (o2+5)).bind fun c3=>
 (C.asI .i64 c3).bind fun n4=>
 (withP c fun i5 o6=>
 (Heap.st M.lim H i5 (o6+5) [(.int .i64 (IntKind.wrap .i64 (n4+1)))]).bind fun H7=>
 (withP c fun i8 o9=>
 (withP c fun i10 o11=>
 (withP c fun i12 o13=>
 (withP c fun i14 o15=>
 (Heap.ld H7 i8 (o9+1)).bind fun c16=>
 (Heap.ld H7 i10 (o11+2)).bind fun c17=>
 (Heap.ld H7 i12 (o13+5)).bind fun c18=>
 (C.asI .i64 c18).bind fun n19=>
 (Heap.ld H7 i14 (o15+5)).bind fun c20=>
 (C.asI .i64 c20).bind fun n21=>
 (C.elem 1 c16 v).bind fun q22=>
 (Heap.st M.lim H7 q22.1 q22.2 [(.int .i64 n19)]).bind fun H23=>
 (C.elem 1 c17 v).bind fun q24=>
 (Heap.st M.lim H23 q24.1 q24.2 [(.int .i64 n21)]).bind fun H25=>
 (withP c fun i26 o27=>
 (Heap.ld H25 i26 (o27+4)).bind fun c28=>
 let H29:=Heap.alloc H25 (.cells 1 [(.int .i64 v)])
 (Heap.cellsOf H29 1 (.slice H25.next 0 1)).bind fun xs30=>
 (Heap.app M.lim H29 1 c28 xs30 1).bind fun q31=>
 (withP c fun i32 o33=>
 (Heap.st M.lim q31.2 i32 (o33+4) [q31.1]).bind fun H34=>
 (withP c fun i35 o36=>
 (Heap.ld H34 i35 o36).bind fun c37=>
 (C.elem 1 c37 v).bind fun q38=>
 (Heap.ld H34 q38.1 q38.2).bind fun c39=>
 (C.len c39).bind fun k40=>
 f109_1 M c v c39 ((k40:Nat):Int) 0 H34))))))))):=by
 unfold f109 mrun;rw[q0j];kernel_rfl
theorem J0L(M:Mach)(c:C)(v:Int)(x51:C)(x52:Int)(x53:Int)(H:Heap):f109_1 M c v x51 x52 x53 H=
 (if(decide (x53<x52))=true then
 (C.elem 1 x51 x53).bind fun q1=>
 (Heap.ld H q1.1 q1.2).bind fun c2=>
 (C.asI .i64 c2).bind fun n3=>
 (withP c fun i4 o5=>
 (Heap.ld H i4 (o5+1)).bind fun c6=>
 (C.elem 1 c6 n3).bind fun q7=>
 (Heap.ld H q7.1 q7.2).bind fun c8=>
 (C.asI .i64 c8).bind fun n9=>
 (if(decide (n9=0))=true then
 (f109 M c n3 H).bind fun q10=>
 (withP c fun i11 o12=>
 (withP c fun i13 o14=>
 (withP c fun i15 o16=>
 (Heap.ld q10.2 i11 (o12+2)).bind fun c17=>
 (Heap.ld q10.2 i13 (o14+2)).bind fun c18=>
 (C.elem 1 c18 v).bind fun q19=>
 (Heap.ld q10.2 q19.1 q19.2).bind fun c20=>
 (C.asI .i64 c20).bind fun n21=>
 (Heap.ld q10.2 i15 (o16+2)).bind fun c22=>
 (C.elem 1 c22 n3).bind fun q23=>
 (Heap.ld q10.2 q23.1 q23.2).bind fun c24=>
 (C.asI .i64 c24).bind fun n25=>
 (C.elem 1 c17 v).bind fun q26=>
 (Heap.st M.lim q10.2 q26.1 q26.2 [(.int .i64 (if n25<n21 then n25 else n21))]).bind fun H27=>
 f109_2 M c v x51 x52 x53 H27)))
 else
 (withP c fun i28 o29=>
 (Heap.ld H i28 (o29+3)).bind fun c30=>
 (C.elem 1 c30 n3).bind fun q31=>
 (Heap.ld H q31.1 q31.2).bind fun c32=>
 (C.asI .i64 c32).bind fun n33=>
 (if(decide (n33<0))=true then
 (withP c fun i34 o35=>
 (withP c fun i36 o37=>
 (withP c fun i38 o39=>
 (Heap.ld H i34 (o35+2)).bind fun c40=>
 (Heap.ld H i36 (o37+2)).bind fun c41=>
 (C.elem 1 c41 v).bind fun q42=>
 (Heap.ld H q42.1 q42.2).bind fun c43=>
 (C.asI .i64 c43).bind fun n44=>
 (Heap.ld H i38 (o39+1)).bind fun c45=>
 (C.elem 1 c45 n3).bind fun q46=>
 (Heap.ld H q46.1 q46.2).bind fun c47=>
 (C.asI .i64 c47).bind fun n48=>
 (C.elem 1 c40 v).bind fun q49=>
 (Heap.st M.lim H q49.1 q49.2 [(.int .i64 (if n48<n44 then n48 else n44))]).bind fun H50=>
 f109_3 M c v x51 x52 x53 H50)))
 else
 f109_3 M c v x51 x52 x53 H))))
 else
 (withP c fun i51 o52=>
 (withP c fun i53 o54=>
 (Heap.ld H i51 (o52+2)).bind fun c55=>
 (C.elem 1 c55 v).bind fun q56=>
 (Heap.ld H q56.1 q56.2).bind fun c57=>
 (C.asI .i64 c57).bind fun n58=>
 (Heap.ld H i53 (o54+1)).bind fun c59=>
 (C.elem 1 c59 v).bind fun q60=>
 (Heap.ld H q60.1 q60.2).bind fun c61=>
 (C.asI .i64 c61).bind fun n62=>
 (if(decide (n58<n62))=true then
 some ((.tuple []),H)
 else
 f109_4 M c v H)))):=by
 unfold f109_1 mrun;rw[q0j];kernel_rfl
theorem w0D(M:Mach)(c:C)(v:Int)(x51:C)(x52:Int)(x53:Int)(H:Heap):f109_2 M c v x51 x52 x53 H=
 f109_1 M c v x51 x52 (IntKind.wrap .i64 (x53+1)) H:=by
 unfold f109_2 mrun;rw[q0j];kernel_rfl
theorem J0M(M:Mach)(c:C)(v:Int)(x51:C)(x52:Int)(x53:Int)(H:Heap):f109_3 M c v x51 x52 x53 H=
 f109_2 M c v x51 x52 x53 H:=by
 unfold f109_3 mrun;rw[q0j];kernel_rfl
theorem J0N(M:Mach)(c:C)(v:Int)(H:Heap):f109_4 M c v H=
 (withP c fun i1 o2=>
 (Heap.ld H i1 (o2+4)).bind fun c3=>
 (C.len c3).bind fun k4=>
 (withP c fun i5 o6=>
 (Heap.ld H i5 (o6+4)).bind fun c7=>
 (C.elem 1 c7 (IntKind.wrap .i64 (((k4:Nat):Int) - 1))).bind fun q8=>
 (Heap.ld H q8.1 q8.2).bind fun c9=>
 (C.asI .i64 c9).bind fun n10=>
 (withP c fun i11 o12=>
 (Heap.ld H i11 (o12+4)).bind fun c13=>
 (Heap.sub M.lim H 1 c13 0 (some (IntKind.wrap .i64 (((k4:Nat):Int) - 1)))).bind fun c14=>
 (withP c fun i15 o16=>
 (Heap.st M.lim H i15 (o16+4) [c14]).bind fun H17=>
 (withP c fun i18 o19=>
 (withP c fun i20 o21=>
 (Heap.ld H17 i18 (o19+3)).bind fun c22=>
 (Heap.ld H17 i20 (o21+6)).bind fun c23=>
 (C.asI .i64 c23).bind fun n24=>
 (C.elem 1 c22 n10).bind fun q25=>
 (Heap.st M.lim H17 q25.1 q25.2 [(.int .i64 n24)]).bind fun H26=>
 (if(decide (n10=v))=true then
 (withP c fun i27 o28=>
 (Heap.ld H26 i27 (o28+6)).bind fun c29=>
 (C.asI .i64 c29).bind fun n30=>
 (withP c fun i31 o32=>
 (Heap.st M.lim H26 i31 (o32+6) [(.int .i64 (IntKind.wrap .i64 (n30+1)))]).bind fun H33=>
 some ((.tuple []),H33)))
 else
 f109_4 M c v H26))))))):=by
 unfold f109_4 mrun;rw[q0j];kernel_rfl
end Go.Proofs.Ytglkhoamnmiolaa.R
