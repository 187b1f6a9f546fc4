/- - -/
import Derived.Test.YtglkhoamnmiolaaRa
import Derived.Test.YtglkhoamnmiolaaE9
set_option linter.all false
namespace Go.Proofs.Ytglkhoamnmiolaa.R
open Go Go.Proofs.Ytglkhoamnmiolaa.Vm
def seenC(H:Heap)(i o:Nat)(kd:K0)(u:V):Bool:=match(H.ld i o).bind fun x=>kd.take x fun y=>some (V.c y)with
 |some v=>eqV v u
 |none=>false
def ez(n:Nat)(l:List (Nat×T)):Env:=(List.range n).map fun p=>(l.lookup p).getD .poison
noncomputable def mrun(M:Mach):RunT:=Vm.run M.ext (progOf 8 prog M.out) M.lim
noncomputable def mcall(M:Mach)(f:FuncId)(vs:List V)(H:Heap):Rs:=mrun M f 0 (vs.map .val) H
noncomputable def f16(M:Mach)(a_0:Int)(a_1:C)(a_2:C)(a_3:C)(w_0:C)(w_1:C)(H:Heap):Rs:=mrun M 16 0 [.val (.agg [(.int .i64 a_0),a_1,a_2,a_3]), .val (.agg [w_0,w_1])] H
noncomputable def f16_1(M:Mach)(a_0:Int)(a_1:C)(a_2:C)(a_3:C)(w_0:C)(w_1:C)(n:Int)(next:C)(p:Int)(H:Heap):Rs:=mrun M 16 1 (ez 150 [(2, .loc [(.int .i64 a_0),a_1,a_2,a_3]),(3, .loc [w_0,w_1]),(5, .val (.c (.int .i64 n))),(6, .val (.c next)),(7, .val (.c (.int .i64 p)))]) H
noncomputable def f16_2(M:Mach)(a_0:Int)(a_1:C)(a_2:C)(a_3:C)(w_0:C)(w_1:C)(n:Int)(next:C)(p:Int)(to:Int)(H:Heap):Rs:=mrun M 16 2 (ez 150 [(2, .loc [(.int .i64 a_0),a_1,a_2,a_3]),(3, .loc [w_0,w_1]),(5, .val (.c (.int .i64 n))),(6, .val (.c next)),(7, .val (.c (.int .i64 p))),(8, .val (.c (.int .i64 to)))]) H
noncomputable def f16_5(M:Mach)(a_0:Int)(a_1:C)(a_2:C)(a_3:C)(n:Int)(next:C)(sets:C)(k:Int)(H:Heap):Rs:=mrun M 16 5 (ez 150 [(2, .loc [(.int .i64 a_0),a_1,a_2,a_3]),(5, .val (.c (.int .i64 n))),(6, .val (.c next)),(11, .val (.c sets)),(12, .val (.c (.int .i64 k)))]) H
noncomputable def f16_3(M:Mach)(a_0:Int)(a_1:C)(a_2:C)(a_3:C)(w_0:C)(w_1:C)(n:Int)(next:C)(p:Int)(to:Int)(i:Int)(H:Heap):Rs:=mrun M 16 3 (ez 150 [(2, .loc [(.int .i64 a_0),a_1,a_2,a_3]),(3, .loc [w_0,w_1]),(5, .val (.c (.int .i64 n))),(6, .val (.c next)),(7, .val (.c (.int .i64 p))),(8, .val (.c (.int .i64 to))),(9, .val (.c (.int .i64 i)))]) H
noncomputable def f16_6(M:Mach)(a_0:Int)(a_1:C)(a_2:C)(a_3:C)(n:Int)(next:C)(sets:C)(k:Int)(own:C)(i:Int)(H:Heap):Rs:=mrun M 16 6 (ez 150 [(2, .loc [(.int .i64 a_0),a_1,a_2,a_3]),(5, .val (.c (.int .i64 n))),(6, .val (.c next)),(11, .val (.c sets)),(12, .val (.c (.int .i64 k))),(13, .val (.c own)),(14, .val (.c (.int .i64 i)))]) H
noncomputable def f16_8(M:Mach)(a_0:Int)(a_1:C)(a_2:C)(a_3:C)(n:Int)(vin:C)(i:Int)(H:Heap):Rs:=mrun M 16 8 (ez 150 [(2, .loc [(.int .i64 a_0),a_1,a_2,a_3]),(5, .val (.c (.int .i64 n))),(16, .val (.c vin)),(17, .val (.c (.int .i64 i)))]) H
noncomputable def f16_4(M:Mach)(a_0:Int)(a_1:C)(a_2:C)(a_3:C)(w_0:C)(w_1:C)(n:Int)(next:C)(p:Int)(to:Int)(i:Int)(H:Heap):Rs:=mrun M 16 4 (ez 150 [(2, .loc [(.int .i64 a_0),a_1,a_2,a_3]),(3, .loc [w_0,w_1]),(5, .val (.c (.int .i64 n))),(6, .val (.c next)),(7, .val (.c (.int .i64 p))),(8, .val (.c (.int .i64 to))),(9, .val (.c (.int .i64 i)))]) H
noncomputable def f16_7(M:Mach)(a_0:Int)(a_1:C)(a_2:C)(a_3:C)(n:Int)(next:C)(sets:C)(k:Int)(own:C)(i:Int)(p:Int)(H:Heap):Rs:=mrun M 16 7 (ez 150 [(2, .loc [(.int .i64 a_0),a_1,a_2,a_3]),(5, .val (.c (.int .i64 n))),(6, .val (.c next)),(11, .val (.c sets)),(12, .val (.c (.int .i64 k))),(13, .val (.c own)),(14, .val (.c (.int .i64 i))),(15, .val (.c (.int .i64 p)))]) H
noncomputable def f33(M:Mach)(a_0:Int)(a_1:C)(a_2:C)(a_3:C)(H:Heap):Rs:=mrun M 33 0 [.val (.agg [(.int .i64 a_0),a_1,a_2,a_3])] H
noncomputable def f33_1(M:Mach)(a_0:Int)(a_1:C)(a_2:C)(a_3:C)(x2_0:Int)(x2_1:C)(x2_2:C)(x2_3:C)(sets:Int)(levels:C)(vat:C)(out_0:Int)(out_1:C)(out_2:C)(out_3:C)(x42:C)(x43:Int)(x44:Int)(H:Heap):Rs:=mrun M 33 1 (ez 135 [(1, .loc [(.int .i64 a_0),a_1,a_2,a_3]),(2, .loc [(.int .i64 x2_0),x2_1,x2_2,x2_3]),(5, .val (.c (.int .i64 sets))),(6, .val (.c levels)),(7, .val (.c vat)),(8, .loc [(.int .i64 out_0),out_1,out_2,out_3]),(42, .val (.c x42)),(43, .val (.c (.int .i64 x43))),(44, .val (.c (.int .i64 x44)))]) H
noncomputable def f33_2(M:Mach)(a_0:Int)(a_1:C)(a_2:C)(a_3:C)(x2_0:Int)(x2_1:C)(x2_2:C)(x2_3:C)(sets:Int)(levels:C)(vat:C)(out_0:Int)(out_1:C)(out_2:C)(out_3:C)(x58:C)(x59:Int)(x60:Int)(H:Heap):Rs:=mrun M 33 2 (ez 135 [(1, .loc [(.int .i64 a_0),a_1,a_2,a_3]),(2, .loc [(.int .i64 x2_0),x2_1,x2_2,x2_3]),(5, .val (.c (.int .i64 sets))),(6, .val (.c levels)),(7, .val (.c vat)),(8, .loc [(.int .i64 out_0),out_1,out_2,out_3]),(58, .val (.c x58)),(59, .val (.c (.int .i64 x59))),(60, .val (.c (.int .i64 x60)))]) H
noncomputable def f33_3(M:Mach)(a_0:Int)(a_1:C)(a_2:C)(a_3:C)(x2_0:Int)(x2_1:C)(x2_2:C)(x2_3:C)(sets:Int)(levels:C)(vat:C)(out_0:Int)(out_1:C)(out_2:C)(out_3:C)(x_0:Int)(x_1:Int)(x_2:Int)(x_3:Int)(x58:C)(x59:Int)(x60:Int)(x64:Int)(x65:Int)(H:Heap):Rs:=mrun M 33 3 (ez 135 [(1, .loc [(.int .i64 a_0),a_1,a_2,a_3]),(2, .loc [(.int .i64 x2_0),x2_1,x2_2,x2_3]),(5, .val (.c (.int .i64 sets))),(6, .val (.c levels)),(7, .val (.c vat)),(8, .loc [(.int .i64 out_0),out_1,out_2,out_3]),(12, .loc [(.int .i64 x_0),(.int .i64 x_1),(.int .i64 x_2),(.int .i64 x_3)]),(58, .val (.c x58)),(59, .val (.c (.int .i64 x59))),(60, .val (.c (.int .i64 x60))),(64, .val (.c (.int .i64 x64))),(65, .val (.c (.int .i64 x65)))]) H
noncomputable def f33_6(M:Mach)(x2_0:Int)(x2_1:C)(x2_2:C)(x2_3:C)(sets:Int)(vat:C)(out_0:Int)(out_1:C)(out_2:C)(out_3:C)(x113:Int)(x114:Int)(H:Heap):Rs:=mrun M 33 6 (ez 135 [(2, .loc [(.int .i64 x2_0),x2_1,x2_2,x2_3]),(5, .val (.c (.int .i64 sets))),(7, .val (.c vat)),(8, .loc [(.int .i64 out_0),out_1,out_2,out_3]),(113, .val (.c (.int .i64 x113))),(114, .val (.c (.int .i64 x114)))]) H
noncomputable def f33_4(M:Mach)(a_0:Int)(a_1:C)(a_2:C)(a_3:C)(x2_0:Int)(x2_1:C)(x2_2:C)(x2_3:C)(sets:Int)(levels:C)(vat:C)(out_0:Int)(out_1:C)(out_2:C)(out_3:C)(x_0:Int)(x_1:Int)(x_2:Int)(x_3:Int)(level:Int)(met:Int)(x58:C)(x59:Int)(x60:Int)(x64:Int)(x65:Int)(H:Heap):Rs:=mrun M 33 4 (ez 135 [(1, .loc [(.int .i64 a_0),a_1,a_2,a_3]),(2, .loc [(.int .i64 x2_0),x2_1,x2_2,x2_3]),(5, .val (.c (.int .i64 sets))),(6, .val (.c levels)),(7, .val (.c vat)),(8, .loc [(.int .i64 out_0),out_1,out_2,out_3]),(12, .loc [(.int .i64 x_0),(.int .i64 x_1),(.int .i64 x_2),(.int .i64 x_3)]),(13, .val (.c (.int .i64 level))),(14, .val (.c (.int .i64 met))),(58, .val (.c x58)),(59, .val (.c (.int .i64 x59))),(60, .val (.c (.int .i64 x60))),(64, .val (.c (.int .i64 x64))),(65, .val (.c (.int .i64 x65)))]) H
noncomputable def f33_5(M:Mach)(a_0:Int)(a_1:C)(a_2:C)(a_3:C)(x2_0:Int)(x2_1:C)(x2_2:C)(x2_3:C)(sets:Int)(levels:C)(vat:C)(out_0:Int)(out_1:C)(out_2:C)(out_3:C)(x_0:Int)(x_1:Int)(x_2:Int)(x_3:Int)(level:Int)(met:Int)(x58:C)(x59:Int)(x60:Int)(x64:Int)(x65:Int)(H:Heap):Rs:=mrun M 33 5 (ez 135 [(1, .loc [(.int .i64 a_0),a_1,a_2,a_3]),(2, .loc [(.int .i64 x2_0),x2_1,x2_2,x2_3]),(5, .val (.c (.int .i64 sets))),(6, .val (.c levels)),(7, .val (.c vat)),(8, .loc [(.int .i64 out_0),out_1,out_2,out_3]),(12, .loc [(.int .i64 x_0),(.int .i64 x_1),(.int .i64 x_2),(.int .i64 x_3)]),(13, .val (.c (.int .i64 level))),(14, .val (.c (.int .i64 met))),(58, .val (.c x58)),(59, .val (.c (.int .i64 x59))),(60, .val (.c (.int .i64 x60))),(64, .val (.c (.int .i64 x64))),(65, .val (.c (.int .i64 x65)))]) H
noncomputable def f82(M:Mach)(next:C)(H:Heap):Rs:=mrun M 82 0 [.val (.c next)] H
noncomputable def f82_1(M:Mach)(next:C)(out:C)(i:Int)(H:Heap):Rs:=mrun M 82 1 (ez 47 [(0, .val (.c next)),(3, .val (.c out)),(4, .val (.c (.int .i64 i)))]) H
noncomputable def f82_2(M:Mach)(next:C)(out:C)(i:Int)(k:Int)(H:Heap):Rs:=mrun M 82 2 (ez 47 [(0, .val (.c next)),(3, .val (.c out)),(4, .val (.c (.int .i64 i))),(5, .val (.c (.int .i64 k)))]) H
noncomputable def f36(M:Mach)(a_0:Int)(a_1:C)(a_2:C)(a_3:C)(H:Heap):Rs:=mrun M 36 0 [.val (.agg [(.int .i64 a_0),a_1,a_2,a_3])] H
noncomputable def f42(M:Mach)(w_0:C)(w_1:C)(vat:Int)(H:Heap):Rs:=mrun M 42 0 [.val (.agg [w_0,w_1]), .val (.c (.int .i64 vat))] H
noncomputable def f43(M:Mach)(x_0:Int)(x_1:Int)(x_2:Int)(x_3:Int)(letter:Int)(H:Heap):Rs:=mrun M 43 0 [.val (.agg [(.int .i64 x_0),(.int .i64 x_1),(.int .i64 x_2),(.int .i64 x_3)]), .val (.c (.int .i64 letter))] H
noncomputable def f44(M:Mach)(next:C)(sets:C)(H:Heap):Rs:=mrun M 44 0 [.val (.c next), .val (.c sets)] H
noncomputable def f56(M:Mach)(s:C)(v:Int)(H:Heap):Rs:=mrun M 56 0 [.val (.c s), .val (.c (.int .i64 v))] H
noncomputable def f70(M:Mach)(a_0:Int)(a_1:C)(a_2:C)(a_3:C)(H:Heap):Rs:=mrun M 70 0 [.val (.agg [(.int .i64 a_0),a_1,a_2,a_3])] H
theorem w1B(M:Mach)(a_0:Int)(a_1:C)(a_2:C)(a_3:C)(w_0:C)(w_1:C)(H:Heap):f16 M a_0 a_1 a_2 a_3 w_0 w_1 H=
 (C.len w_0).bind fun k1=>
 (C.len w_1).bind fun k2=>
 (if 0<=(IntKind.wrap .i64 (a_0*(IntKind.wrap .i64 (((k1:Nat):Int)+((k2:Nat):Int)))))/\(IntKind.wrap .i64 (a_0*(IntKind.wrap .i64 (((k1:Nat):Int)+((k2:Nat):Int)))))<=2 ^ 36 then
 let H3:=Heap.alloc H (.cells 1 (List.replicate (Int.toNat (IntKind.wrap .i64 (a_0*(IntKind.wrap .i64 (((k1:Nat):Int)+((k2:Nat):Int)))))) [.nilSlice]).flatten)
 f16_1 M a_0 a_1 a_2 a_3 w_0 w_1 (IntKind.wrap .i64 (((k1:Nat):Int)+((k2:Nat):Int))) (.slice H.next 0 (Int.toNat (IntKind.wrap .i64 (a_0*(IntKind.wrap .i64 (((k1:Nat):Int)+((k2:Nat):Int))))))) 0 H3
 else
 none):=by
 unfold f16 mrun;rw[q0H];kernel_rfl
theorem K0o(M:Mach)(a_0:Int)(a_1:C)(a_2:C)(a_3:C)(w_0:C)(w_1:C)(n:Int)(next:C)(p:Int)(H:Heap):f16_1 M a_0 a_1 a_2 a_3 w_0 w_1 n next p H=
 (if(decide (p<n))=true then
 (if(decide ((IntKind.wrap .i64 (p+1))=n))=true then
 (C.len w_0).bind fun k1=>
 f16_2 M a_0 a_1 a_2 a_3 w_0 w_1 n next p ((k1:Nat):Int) H
 else
 f16_2 M a_0 a_1 a_2 a_3 w_0 w_1 n next p (IntKind.wrap .i64 (p+1)) H)
 else
 f16_5 M a_0 a_1 a_2 a_3 n next .nilSlice 0 H):=by
 unfold f16_1 mrun;rw[q0H];kernel_rfl
theorem j1k(M:Mach)(a_0:Int)(a_1:C)(a_2:C)(a_3:C)(w_0:C)(w_1:C)(n:Int)(next:C)(p:Int)(to:Int)(H:Heap):f16_2 M a_0 a_1 a_2 a_3 w_0 w_1 n next p to H=
 f16_3 M a_0 a_1 a_2 a_3 w_0 w_1 n next p to 0 H:=by
 unfold f16_2 mrun;rw[q0H];kernel_rfl
theorem K0p(M:Mach)(a_0:Int)(a_1:C)(a_2:C)(a_3:C)(n:Int)(next:C)(sets:C)(k:Int)(H:Heap):f16_5 M a_0 a_1 a_2 a_3 n next sets k H=
 (C.len a_3).bind fun k1=>
 (if(decide (k<((k1:Nat):Int)))=true then
 (if 0<=(IntKind.wrap .i64 (a_0*n))/\(IntKind.wrap .i64 (a_0*n))<=2 ^ 36 then
 let H2:=Heap.alloc H (.cells 1 (List.replicate (Int.toNat (IntKind.wrap .i64 (a_0*n))) [(.bool false)]).flatten)
 f16_6 M a_0 a_1 a_2 a_3 n next sets k (.slice H.next 0 (Int.toNat (IntKind.wrap .i64 (a_0*n)))) 0 H2
 else
 none)
 else
 (f44 M next sets H).bind fun q3=>
 (V.asC q3.1).bind fun c4=>
 f16_8 M a_0 a_1 a_2 a_3 n c4 0 q3.2):=by
 unfold f16_5 mrun;rw[q0H];kernel_rfl
theorem Q0n(M:Mach)(a_0:Int)(a_1:C)(a_2:C)(a_3:C)(w_0:C)(w_1:C)(n:Int)(next:C)(p:Int)(to:Int)(i:Int)(H:Heap):f16_3 M a_0 a_1 a_2 a_3 w_0 w_1 n next p to i H=
 (C.len a_2).bind fun k1=>
 (if(decide (i<((k1:Nat):Int)))=true then
 (C.elem 4 a_2 i).bind fun q2=>
 (Heap.ld H q2.1 q2.2).bind fun c3=>
 (C.asI .i64 c3).bind fun n4=>
 (Heap.ld H q2.1 (q2.2+1)).bind fun c5=>
 (C.asI .i64 c5).bind fun n6=>
 (Heap.ld H q2.1 ((q2.2+1)+1)).bind fun c7=>
 (C.asI .i64 c7).bind fun n8=>
 (Heap.ld H q2.1 (((q2.2+1)+1)+1)).bind fun c9=>
 (C.asI .i64 c9).bind fun n10=>
 (f42 M w_0 w_1 p H).bind fun q11=>
 (V.asC q11.1).bind fun c12=>
 (C.asI .i64 c12).bind fun n13=>
 (f43 M n4 n6 n8 n10 n13 q11.2).bind fun q14=>
 (V.asC q14.1).bind fun c15=>
 (C.asB c15).bind fun b16=>
 (if b16=true then
 (C.elem 1 next (IntKind.wrap .i64 ((IntKind.wrap .i64 (n4*n))+p))).bind fun q17=>
 (Heap.ld q14.2 q17.1 q17.2).bind fun c18=>
 let H19:=Heap.alloc q14.2 (.cells 1 [(.int .i64 (IntKind.wrap .i64 ((IntKind.wrap .i64 (n6*n))+to)))])
 (Heap.cellsOf H19 1 (.slice q14.2.next 0 1)).bind fun xs20=>
 (Heap.app M.lim H19 1 c18 xs20 1).bind fun q21=>
 (C.elem 1 next (IntKind.wrap .i64 ((IntKind.wrap .i64 (n4*n))+p))).bind fun q22=>
 (Heap.st M.lim q21.2 q22.1 q22.2 [q21.1]).bind fun H23=>
 f16_4 M a_0 a_1 a_2 a_3 w_0 w_1 n next p to i H23
 else
 f16_4 M a_0 a_1 a_2 a_3 w_0 w_1 n next p to i q14.2)
 else
 f16_1 M a_0 a_1 a_2 a_3 w_0 w_1 n next (IntKind.wrap .i64 (p+1)) H):=by
 unfold f16_3 mrun;rw[q0H];kernel_rfl
theorem K0q(M:Mach)(a_0:Int)(a_1:C)(a_2:C)(a_3:C)(n:Int)(next:C)(sets:C)(k:Int)(own:C)(i:Int)(H:Heap):f16_6 M a_0 a_1 a_2 a_3 n next sets k own i H=
 (C.elem 1 a_3 k).bind fun q1=>
 (Heap.ld H q1.1 q1.2).bind fun c2=>
 (C.len c2).bind fun k3=>
 (if(decide (i<((k3:Nat):Int)))=true then
 f16_7 M a_0 a_1 a_2 a_3 n next sets k own i 0 H
 else
 let H4:=Heap.alloc H (.cells 1 [own])
 (Heap.cellsOf H4 1 (.slice H.next 0 1)).bind fun xs5=>
 (Heap.app M.lim H4 1 sets xs5 1).bind fun q6=>
 f16_5 M a_0 a_1 a_2 a_3 n next q6.1 (IntKind.wrap .i64 (k+1)) q6.2):=by
 unfold f16_6 mrun;rw[q0H];kernel_rfl
theorem K0r(M:Mach)(a_0:Int)(a_1:C)(a_2:C)(a_3:C)(n:Int)(vin:C)(i:Int)(H:Heap):f16_8 M a_0 a_1 a_2 a_3 n vin i H=
 (C.len a_1).bind fun k1=>
 (if(decide (i<((k1:Nat):Int)))=true then
 (C.elem 1 a_1 i).bind fun q2=>
 (Heap.ld H q2.1 q2.2).bind fun c3=>
 (C.asI .i64 c3).bind fun n4=>
 (C.elem 1 vin (IntKind.wrap .i64 (n4*n))).bind fun q5=>
 (Heap.ld H q5.1 q5.2).bind fun c6=>
 (C.asB c6).bind fun b7=>
 (if b7=true then
 some ((.c (.bool true)),H)
 else
 f16_8 M a_0 a_1 a_2 a_3 n vin (IntKind.wrap .i64 (i+1)) H)
 else
 some ((.c (.bool false)),H)):=by
 unfold f16_8 mrun;rw[q0H];kernel_rfl
theorem K0s(M:Mach)(a_0:Int)(a_1:C)(a_2:C)(a_3:C)(w_0:C)(w_1:C)(n:Int)(next:C)(p:Int)(to:Int)(i:Int)(H:Heap):f16_4 M a_0 a_1 a_2 a_3 w_0 w_1 n next p to i H=
 f16_3 M a_0 a_1 a_2 a_3 w_0 w_1 n next p to (IntKind.wrap .i64 (i+1)) H:=by
 unfold f16_4 mrun;rw[q0H];kernel_rfl
theorem K0t(M:Mach)(a_0:Int)(a_1:C)(a_2:C)(a_3:C)(n:Int)(next:C)(sets:C)(k:Int)(own:C)(i:Int)(p:Int)(H:Heap):f16_7 M a_0 a_1 a_2 a_3 n next sets k own i p H=
 (if(decide (p<n))=true then
 (C.elem 1 a_3 k).bind fun q1=>
 (Heap.ld H q1.1 q1.2).bind fun c2=>
 (C.elem 1 c2 i).bind fun q3=>
 (Heap.ld H q3.1 q3.2).bind fun c4=>
 (C.asI .i64 c4).bind fun n5=>
 (C.elem 1 own (IntKind.wrap .i64 ((IntKind.wrap .i64 (n5*n))+p))).bind fun q6=>
 (Heap.st M.lim H q6.1 q6.2 [(.bool true)]).bind fun H7=>
 f16_7 M a_0 a_1 a_2 a_3 n next sets k own i (IntKind.wrap .i64 (p+1)) H7
 else
 f16_6 M a_0 a_1 a_2 a_3 n next sets k own (IntKind.wrap .i64 (i+1)) H):=by
 unfold f16_7 mrun;rw[q0H];kernel_rfl
theorem z1w(M:Mach)(a_0:Int)(a_1:C)(a_2:C)(a_3:C)(H:Heap):f33 M a_0 a_1 a_2 a_3 H=
 (f36 M a_0 a_1 a_2 a_3 H).bind fun q1=>
 (V.asC q1.1).bind fun c2=>
 (C.asI .i64 c2).bind fun n3=>
 (if(!decide (n3=0))=true then
 some ((.tuple [(.agg [(.int .i64 0), .nilSlice, .nilSlice, .nilSlice]),(.c (.int .i64 n3))]),q1.2)
 else
 (C.len a_3).bind fun k4=>
 let H5:=Heap.alloc q1.2 (.cells 1 [(.int .i64 0)])
 (Heap.st M.lim H5 q1.2.next 0 [(.int .i64 (IntKind.wrap .i64 (((k4:Nat):Int)+1)))]).bind fun H6=>
 (Heap.ld H6 q1.2.next 0).bind fun c7=>
 (C.asI .i64 c7).bind fun n8=>
 (if(decide (300<(IntKind.wrap .i64 (a_0*n8))))=true then
 some ((.tuple [(.agg [(.int .i64 0), .nilSlice, .nilSlice, .nilSlice]),(.c (.int .i64 2))]),H6)
 else
 (Heap.ld H6 q1.2.next 0).bind fun c9=>
 (C.asI .i64 c9).bind fun n10=>
 let H11:=Heap.alloc H6 (.cells 1 [])
 let H12:=Heap.alloc H11 (.cells 1 [(.slice H6.next 0 0)])
 (C.len a_1).bind fun k13=>
 f33_1 M a_0 a_1 a_2 a_3 0 .nilSlice .nilSlice .nilSlice ((k4:Nat):Int) (.ptr q1.2.next 0) (.func 71 [] [(.ptr q1.2.next 0)]) (IntKind.wrap .i64 (a_0*n10)) .nilSlice .nilSlice (.slice H11.next 0 1) a_1 ((k13:Nat):Int) 0 H12)):=by
 unfold f33 mrun;rw[q0H];kernel_rfl
theorem K0u(M:Mach)(a_0:Int)(a_1:C)(a_2:C)(a_3:C)(x2_0:Int)(x2_1:C)(x2_2:C)(x2_3:C)(sets:Int)(levels:C)(vat:C)(out_0:Int)(out_1:C)(out_2:C)(out_3:C)(x42:C)(x43:Int)(x44:Int)(H:Heap):f33_1 M a_0 a_1 a_2 a_3 x2_0 x2_1 x2_2 x2_3 sets levels vat out_0 out_1 out_2 out_3 x42 x43 x44 H=
 (if(decide (x44<x43))=true then
 (C.elem 1 x42 x44).bind fun q1=>
 (Heap.ld H q1.1 q1.2).bind fun c2=>
 (C.asI .i64 c2).bind fun n3=>
 (C.asF vat).bind fun g4=>
 (mcall M g4.1 (g4.2.1.map .c++[(.c (.int .i64 n3)),(.c (.int .i64 0))]++g4.2.2.map .c) H).bind fun q5=>
 (V.asC q5.1).bind fun c6=>
 (C.asI .i64 c6).bind fun n7=>
 let H8:=Heap.alloc q5.2 (.cells 1 [(.int .i64 n7)])
 (Heap.cellsOf H8 1 (.slice q5.2.next 0 1)).bind fun xs9=>
 (Heap.app M.lim H8 1 out_1 xs9 1).bind fun q10=>
 f33_1 M a_0 a_1 a_2 a_3 x2_0 x2_1 x2_2 x2_3 sets levels vat out_0 q10.1 out_2 out_3 x42 x43 (IntKind.wrap .i64 (x44+1)) q10.2
 else
 (C.len a_2).bind fun k11=>
 f33_2 M a_0 a_1 a_2 a_3 x2_0 x2_1 x2_2 x2_3 sets levels vat out_0 out_1 out_2 out_3 a_2 ((k11:Nat):Int) 0 H):=by
 unfold f33_1 mrun;rw[q0H];kernel_rfl
theorem K0v(M:Mach)(a_0:Int)(a_1:C)(a_2:C)(a_3:C)(x2_0:Int)(x2_1:C)(x2_2:C)(x2_3:C)(sets:Int)(levels:C)(vat:C)(out_0:Int)(out_1:C)(out_2:C)(out_3:C)(x58:C)(x59:Int)(x60:Int)(H:Heap):f33_2 M a_0 a_1 a_2 a_3 x2_0 x2_1 x2_2 x2_3 sets levels vat out_0 out_1 out_2 out_3 x58 x59 x60 H=
 (if(decide (x60<x59))=true then
 (C.elem 4 x58 x60).bind fun q1=>
 (Heap.ld H q1.1 q1.2).bind fun c2=>
 (C.asI .i64 c2).bind fun n3=>
 (Heap.ld H q1.1 (q1.2+1)).bind fun c4=>
 (C.asI .i64 c4).bind fun n5=>
 (Heap.ld H q1.1 ((q1.2+1)+1)).bind fun c6=>
 (C.asI .i64 c6).bind fun n7=>
 (Heap.ld H q1.1 (((q1.2+1)+1)+1)).bind fun c8=>
 (C.asI .i64 c8).bind fun n9=>
 (V.asP (.c levels)).bind fun a10=>
 (Heap.ld H a10.1 a10.2).bind fun c11=>
 (C.asI .i64 c11).bind fun n12=>
 f33_3 M a_0 a_1 a_2 a_3 x2_0 x2_1 x2_2 x2_3 sets levels vat out_0 out_1 out_2 out_3 n3 n5 n7 n9 x58 x59 x60 n12 0 H
 else
 f33_6 M x2_0 x2_1 x2_2 x2_3 sets vat out_0 out_1 out_2 out_3 a_0 0 H):=by
 unfold f33_2 mrun;rw[q0H];kernel_rfl
theorem K0w(M:Mach)(a_0:Int)(a_1:C)(a_2:C)(a_3:C)(x2_0:Int)(x2_1:C)(x2_2:C)(x2_3:C)(sets:Int)(levels:C)(vat:C)(out_0:Int)(out_1:C)(out_2:C)(out_3:C)(x_0:Int)(x_1:Int)(x_2:Int)(x_3:Int)(x58:C)(x59:Int)(x60:Int)(x64:Int)(x65:Int)(H:Heap):f33_3 M a_0 a_1 a_2 a_3 x2_0 x2_1 x2_2 x2_3 sets levels vat out_0 out_1 out_2 out_3 x_0 x_1 x_2 x_3 x58 x59 x60 x64 x65 H=
 (if(decide (x65<x64))=true then
 (if(if 1>sets then 1 else sets)=0 then
 none
 else
 (if(decide (x65=sets))=true then
 f33_4 M a_0 a_1 a_2 a_3 x2_0 x2_1 x2_2 x2_3 sets levels vat out_0 out_1 out_2 out_3 x_0 x_1 x_2 x_3 x65 0 x58 x59 x60 x64 x65 H
 else
 f33_4 M a_0 a_1 a_2 a_3 x2_0 x2_1 x2_2 x2_3 sets levels vat out_0 out_1 out_2 out_3 x_0 x_1 x_2 x_3 x65 (Int.tmod x65 (if 1>sets then 1 else sets)) x58 x59 x60 x64 x65 H))
 else
 f33_2 M a_0 a_1 a_2 a_3 x2_0 x2_1 x2_2 x2_3 sets levels vat out_0 out_1 out_2 out_3 x58 x59 (IntKind.wrap .i64 (x60+1)) H):=by
 unfold f33_3 mrun;rw[q0H];kernel_rfl
theorem K0x(M:Mach)(x2_0:Int)(x2_1:C)(x2_2:C)(x2_3:C)(sets:Int)(vat:C)(out_0:Int)(out_1:C)(out_2:C)(out_3:C)(x113:Int)(x114:Int)(H:Heap):f33_6 M x2_0 x2_1 x2_2 x2_3 sets vat out_0 out_1 out_2 out_3 x113 x114 H=
 (if(decide (x114<x113))=true then
 (C.elem 1 out_3 0).bind fun q1=>
 (Heap.ld H q1.1 q1.2).bind fun c2=>
 (C.asF vat).bind fun g3=>
 (mcall M g3.1 (g3.2.1.map .c++[(.c (.int .i64 x114)),(.c (.int .i64 sets))]++g3.2.2.map .c) H).bind fun q4=>
 (V.asC q4.1).bind fun c5=>
 (C.asI .i64 c5).bind fun n6=>
 (if seenC q4.2 q1.1 q1.2 .c (.c c2)=true then
 let H7:=Heap.alloc q4.2 (.cells 1 [(.int .i64 n6)])
 (Heap.cellsOf H7 1 (.slice q4.2.next 0 1)).bind fun xs8=>
 (Heap.app M.lim H7 1 c2 xs8 1).bind fun q9=>
 (C.elem 1 out_3 0).bind fun q10=>
 (Heap.st M.lim q9.2 q10.1 q10.2 [q9.1]).bind fun H11=>
 f33_6 M x2_0 x2_1 x2_2 x2_3 sets vat out_0 out_1 out_2 out_3 x113 (IntKind.wrap .i64 (x114+1)) H11
 else
 none)
 else
 (f70 M out_0 out_1 out_2 out_3 H).bind fun q12=>
 (V.ext q12.1 0).bind fun v13=>
 (V.asA v13).bind fun c14=>
 (headC c14).bind fun c15=>
 (C.asI .i64 c15).bind fun n16=>
 (headC (c14.drop 1)).bind fun c17=>
 (headC ((c14.drop 1).drop 1)).bind fun c18=>
 (headC (((c14.drop 1).drop 1).drop 1)).bind fun c19=>
 (if(((((c14.drop 1).drop 1).drop 1).drop 1)).length=0 then
 (V.ext q12.1 1).bind fun v20=>
 (V.asC v20).bind fun c21=>
 (C.asI .i64 c21).bind fun n22=>
 some ((.tuple [(.agg [(.int .i64 n16),c17,c18,c19]),(.c (.int .i64 n22))]),q12.2)
 else
 none)):=by
 unfold f33_6 mrun;rw[q0H];kernel_rfl
theorem j1l(M:Mach)(a_0:Int)(a_1:C)(a_2:C)(a_3:C)(x2_0:Int)(x2_1:C)(x2_2:C)(x2_3:C)(sets:Int)(levels:C)(vat:C)(out_0:Int)(out_1:C)(out_2:C)(out_3:C)(x_0:Int)(x_1:Int)(x_2:Int)(x_3:Int)(level:Int)(met:Int)(x58:C)(x59:Int)(x60:Int)(x64:Int)(x65:Int)(H:Heap):f33_4 M a_0 a_1 a_2 a_3 x2_0 x2_1 x2_2 x2_3 sets levels vat out_0 out_1 out_2 out_3 x_0 x_1 x_2 x_3 level met x58 x59 x60 x64 x65 H=
 f33_5 M a_0 a_1 a_2 a_3 x2_0 x2_1 x2_2 x2_3 sets levels vat out_0 out_1 out_2 out_3 x_0 x_1 x_2 x_3 level met x58 x59 x60 x64 x65 H:=by
 unfold f33_4 mrun;rw[q0H];kernel_rfl
theorem j1m(M:Mach)(a_0:Int)(a_1:C)(a_2:C)(a_3:C)(x2_0:Int)(x2_1:C)(x2_2:C)(x2_3:C)(sets:Int)(levels:C)(vat:C)(out_0:Int)(out_1:C)(out_2:C)(out_3:C)(x_0:Int)(x_1:Int)(x_2:Int)(x_3:Int)(level:Int)(met:Int)(x58:C)(x59:Int)(x60:Int)(x64:Int)(x65:Int)(H:Heap):f33_5 M a_0 a_1 a_2 a_3 x2_0 x2_1 x2_2 x2_3 sets levels vat out_0 out_1 out_2 out_3 x_0 x_1 x_2 x_3 level met x58 x59 x60 x64 x65 H=
 (if(decide (met<sets))=true then
 (C.elem 1 a_3 met).bind fun q2=>
 (Heap.ld H q2.1 q2.2).bind fun c3=>
 (f56 M c3 x_1 H).bind fun q4=>
 (V.asC q4.1).bind fun c5=>
 (C.asB c5).bind fun b6=>
 some (b6,q4.2)
 else
 some (decide (met<sets),H)).bind fun q1=>
 (if q1.1=true then
 f33_5 M a_0 a_1 a_2 a_3 x2_0 x2_1 x2_2 x2_3 sets levels vat out_0 out_1 out_2 out_3 x_0 x_1 x_2 x_3 level (IntKind.wrap .i64 (met+1)) x58 x59 x60 x64 x65 q1.2
 else
 (C.asF vat).bind fun g7=>
 (mcall M g7.1 (g7.2.1.map .c++[(.c (.int .i64 x_0)),(.c (.int .i64 level))]++g7.2.2.map .c) q1.2).bind fun q8=>
 (V.asC q8.1).bind fun c9=>
 (C.asI .i64 c9).bind fun n10=>
 (C.asF vat).bind fun g11=>
 (mcall M g11.1 (g11.2.1.map .c++[(.c (.int .i64 x_1)),(.c (.int .i64 met))]++g11.2.2.map .c) q8.2).bind fun q12=>
 (V.asC q12.1).bind fun c13=>
 (C.asI .i64 c13).bind fun n14=>
 let H15:=Heap.alloc q12.2 (.cells 4 [(.int .i64 n10),(.int .i64 n14),(.int .i64 x_2),(.int .i64 x_3)])
 (Heap.cellsOf H15 4 (.slice q12.2.next 0 1)).bind fun xs16=>
 (Heap.app M.lim H15 4 out_2 xs16 1).bind fun q17=>
 f33_3 M a_0 a_1 a_2 a_3 x2_0 x2_1 x2_2 x2_3 sets levels vat out_0 out_1 q17.1 out_3 x_0 x_1 x_2 x_3 x58 x59 x60 x64 (IntKind.wrap .i64 (x65+1)) q17.2):=by
 unfold f33_5 mrun;rw[q0H];kernel_rfl
theorem w1C(M:Mach)(next:C)(H:Heap):f82 M next H=
 (C.len next).bind fun k1=>
 (if 0<=((k1:Nat):Int)/\((k1:Nat):Int)<=2 ^ 36 then
 let H2:=Heap.alloc H (.cells 1 (List.replicate (Int.toNat ((k1:Nat):Int)) [.nilSlice]).flatten)
 f82_1 M next (.slice H.next 0 (Int.toNat ((k1:Nat):Int))) 0 H2
 else
 none):=by
 unfold f82 mrun;rw[q0H];kernel_rfl
theorem K0y(M:Mach)(next:C)(out:C)(i:Int)(H:Heap):f82_1 M next out i H=
 (C.len next).bind fun k1=>
 (if(decide (i<((k1:Nat):Int)))=true then
 f82_2 M next out i 0 H
 else
 some ((.c out),H)):=by
 unfold f82_1 mrun;rw[q0H];kernel_rfl
theorem K0z(M:Mach)(next:C)(out:C)(i:Int)(k:Int)(H:Heap):f82_2 M next out i k H=
 (C.elem 1 next i).bind fun q1=>
 (Heap.ld H q1.1 q1.2).bind fun c2=>
 (C.len c2).bind fun k3=>
 (if(decide (k<((k3:Nat):Int)))=true then
 (C.elem 1 next i).bind fun q4=>
 (C.elem 1 next i).bind fun q5=>
 (Heap.ld H q4.1 q4.2).bind fun c6=>
 (C.elem 1 c6 k).bind fun q7=>
 (Heap.ld H q7.1 q7.2).bind fun c8=>
 (C.asI .i64 c8).bind fun n9=>
 (Heap.ld H q5.1 q5.2).bind fun c10=>
 (C.elem 1 c10 k).bind fun q11=>
 (Heap.ld H q11.1 q11.2).bind fun c12=>
 (C.asI .i64 c12).bind fun n13=>
 (C.elem 1 out n13).bind fun q14=>
 (Heap.ld H q14.1 q14.2).bind fun c15=>
 let H16:=Heap.alloc H (.cells 1 [(.int .i64 i)])
 (Heap.cellsOf H16 1 (.slice H.next 0 1)).bind fun xs17=>
 (Heap.app M.lim H16 1 c15 xs17 1).bind fun q18=>
 (if seenC q18.2 q4.1 q4.2 .c (.c c6)=true then
 (if seenC q18.2 q7.1 q7.2 (.int .i64) (.c (.int .i64 n9))=true then
 (C.elem 1 out n9).bind fun q19=>
 (Heap.st M.lim q18.2 q19.1 q19.2 [q18.1]).bind fun H20=>
 f82_2 M next out i (IntKind.wrap .i64 (k+1)) H20
 else
 none)
 else
 none)
 else
 f82_1 M next out (IntKind.wrap .i64 (i+1)) H):=by
 unfold f82_2 mrun;rw[q0H];kernel_rfl
end Go.Proofs.Ytglkhoamnmiolaa.R
