/- - -/
import Derived.Test.YthjjbkiejkhjfaaRa
import Derived.Test.YthjjbkiejkhjfaaE9
set_option linter.all false
namespace Go.Proofs.Ythjjbkiejkhjfaa.R
open Go Go.Proofs.Ythjjbkiejkhjfaa.Vm
def seenC(H:Heap)(i o:Nat)(kd:K0)(u:V):Bool:=match(H.ld i o).bind fun x=>kd.take x fun y=>some (V.c y)with
 |some v=>eqV v u
 |none=>false
def ez(n:Nat)(l:List (Nat×T)):Env:=(List.range n).map fun p=>(l.lookup p).getD .poison
noncomputable def mrun(M:Mach):RunT:=Vm.run M.ext (progOf 10 prog M.out) M.lim
noncomputable def mcall(M:Mach)(f:FuncId)(vs:List V)(H:Heap):Rs:=mrun M f 0 (vs.map .val) H
noncomputable def f40(M:Mach)(x_0:Int)(x_1:C)(x_2:C)(labels:C)(H:Heap):Rs:=mrun M 40 0 [.val (.agg [(.int .i64 x_0),x_1,x_2]), .val (.c labels)] H
noncomputable def f40_1(M:Mach)(x_0:Int)(x_1:C)(x_2:C)(o:C)(x34:Int)(x35:Int)(H:Heap):Rs:=mrun M 40 1 (ez 108 [(2, .loc [(.int .i64 x_0),x_1,x_2]),(8, .val (.c o)),(34, .val (.c (.int .i64 x34))),(35, .val (.c (.int .i64 x35)))]) H
noncomputable def f40_2(M:Mach)(x_0:Int)(x_1:C)(x_2:C)(o:C)(s:Int)(all:C)(x34:Int)(x35:Int)(x51:C)(x52:Int)(x53:Int)(H:Heap):Rs:=mrun M 40 2 (ez 108 [(2, .loc [(.int .i64 x_0),x_1,x_2]),(8, .val (.c o)),(9, .val (.c (.int .i64 s))),(10, .val (.c all)),(34, .val (.c (.int .i64 x34))),(35, .val (.c (.int .i64 x35))),(51, .val (.c x51)),(52, .val (.c (.int .i64 x52))),(53, .val (.c (.int .i64 x53)))]) H
noncomputable def f40_3(M:Mach)(o:C)(x83:Int)(x84:Int)(H:Heap):Rs:=mrun M 40 3 (ez 108 [(8, .val (.c o)),(83, .val (.c (.int .i64 x83))),(84, .val (.c (.int .i64 x84)))]) H
noncomputable def f40_4(M:Mach)(o:C)(x83:Int)(x84:Int)(H:Heap):Rs:=mrun M 40 4 (ez 108 [(8, .val (.c o)),(83, .val (.c (.int .i64 x83))),(84, .val (.c (.int .i64 x84)))]) H
noncomputable def f52(M:Mach)(x_0:Int)(x_1:C)(x_2:C)(labels:C)(c:C)(H:Heap):Rs:=mrun M 52 0 [.val (.agg [(.int .i64 x_0),x_1,x_2]), .val (.c labels), .val (.c c)] H
noncomputable def f54(M:Mach)(c:C)(s:Int)(H:Heap):Rs:=mrun M 54 0 [.val (.c c), .val (.c (.int .i64 s))] H
noncomputable def f54_1(M:Mach)(s:Int)(c:C)(known:C)(permits:C)(layer:C)(H:Heap):Rs:=mrun M 54 1 (ez 41 [(1, .val (.c (.int .i64 s))),(2, .val (.c c)),(5, .val (.c known)),(6, .val (.c permits)),(7, .val (.c layer))]) H
noncomputable def f54_2(M:Mach)(s:Int)(c:C)(known:C)(permits:C)(layer:C)(x28:C)(x29:Int)(x30:Int)(H:Heap):Rs:=mrun M 54 2 (ez 41 [(1, .val (.c (.int .i64 s))),(2, .val (.c c)),(5, .val (.c known)),(6, .val (.c permits)),(7, .val (.c layer)),(28, .val (.c x28)),(29, .val (.c (.int .i64 x29))),(30, .val (.c (.int .i64 x30)))]) H
noncomputable def f61(M:Mach)(g_0:Int)(g_1:C)(g_2:C)(H:Heap):Rs:=mrun M 61 0 [.val (.agg [(.int .i64 g_0),g_1,g_2])] H
noncomputable def f61_1(M:Mach)(x:C)(x16:C)(x17:Int)(x18:Int)(H:Heap):Rs:=mrun M 61 1 (ez 67 [(3, .val (.c x)),(16, .val (.c x16)),(17, .val (.c (.int .i64 x17))),(18, .val (.c (.int .i64 x18)))]) H
noncomputable def f81(M:Mach)(c:C)(s:Int)(H:Heap):Rs:=mrun M 81 0 [.val (.c c), .val (.c (.int .i64 s))] H
noncomputable def f81_1(M:Mach)(c:C)(s:C)(depends:C)(known:C)(layer:C)(H:Heap):Rs:=mrun M 81 1 (ez 84 [(2, .val (.c c)),(3, .val (.c s)),(5, .val (.c depends)),(6, .val (.c known)),(7, .val (.c layer))]) H
noncomputable def f81_2(M:Mach)(c:C)(s:C)(depends:C)(known:C)(layer:C)(best:C)(x29:C)(x30:Int)(x31:Int)(H:Heap):Rs:=mrun M 81 2 (ez 84 [(2, .val (.c c)),(3, .val (.c s)),(5, .val (.c depends)),(6, .val (.c known)),(7, .val (.c layer)),(8, .val (.c best)),(29, .val (.c x29)),(30, .val (.c (.int .i64 x30))),(31, .val (.c (.int .i64 x31)))]) H
noncomputable def f81_3(M:Mach)(c:C)(s:C)(depends:C)(known:C)(layer:C)(best:C)(p_0:C)(p_1:Int)(x29:C)(x30:Int)(x31:Int)(x38:C)(x39:Int)(x40:Int)(H:Heap):Rs:=mrun M 81 3 (ez 84 [(2, .val (.c c)),(3, .val (.c s)),(5, .val (.c depends)),(6, .val (.c known)),(7, .val (.c layer)),(8, .val (.c best)),(10, .loc [p_0,(.int .i64 p_1)]),(29, .val (.c x29)),(30, .val (.c (.int .i64 x30))),(31, .val (.c (.int .i64 x31))),(38, .val (.c x38)),(39, .val (.c (.int .i64 x39))),(40, .val (.c (.int .i64 x40)))]) H
noncomputable def f81_4(M:Mach)(c:C)(s:C)(depends:C)(known:C)(layer:C)(best:C)(p_0:C)(p_1:Int)(x29:C)(x30:Int)(x31:Int)(x38:C)(x39:Int)(x40:Int)(H:Heap):Rs:=mrun M 81 4 (ez 84 [(2, .val (.c c)),(3, .val (.c s)),(5, .val (.c depends)),(6, .val (.c known)),(7, .val (.c layer)),(8, .val (.c best)),(10, .loc [p_0,(.int .i64 p_1)]),(29, .val (.c x29)),(30, .val (.c (.int .i64 x30))),(31, .val (.c (.int .i64 x31))),(38, .val (.c x38)),(39, .val (.c (.int .i64 x39))),(40, .val (.c (.int .i64 x40)))]) H
noncomputable def f87(M:Mach)(c:C)(layer:C)(known:C)(permits:C)(H:Heap):Rs:=mrun M 87 0 [.val (.c c), .val (.c layer), .val (.c known), .val (.c permits)] H
noncomputable def f87_1(M:Mach)(c:C)(known:C)(permits:C)(out:C)(x14:C)(x15:Int)(x16:Int)(H:Heap):Rs:=mrun M 87 1 (ez 51 [(0, .val (.c c)),(2, .val (.c known)),(3, .val (.c permits)),(9, .val (.c out)),(14, .val (.c x14)),(15, .val (.c (.int .i64 x15))),(16, .val (.c (.int .i64 x16)))]) H
noncomputable def f87_2(M:Mach)(c:C)(known:C)(permits:C)(out:C)(p_0:C)(p_1:Int)(x14:C)(x15:Int)(x16:Int)(x23:C)(x24:Int)(x25:Int)(H:Heap):Rs:=mrun M 87 2 (ez 51 [(0, .val (.c c)),(2, .val (.c known)),(3, .val (.c permits)),(9, .val (.c out)),(11, .loc [p_0,(.int .i64 p_1)]),(14, .val (.c x14)),(15, .val (.c (.int .i64 x15))),(16, .val (.c (.int .i64 x16))),(23, .val (.c x23)),(24, .val (.c (.int .i64 x24))),(25, .val (.c (.int .i64 x25)))]) H
noncomputable def f87_3(M:Mach)(c:C)(known:C)(permits:C)(out:C)(p_0:C)(p_1:Int)(x14:C)(x15:Int)(x16:Int)(x23:C)(x24:Int)(x25:Int)(H:Heap):Rs:=mrun M 87 3 (ez 51 [(0, .val (.c c)),(2, .val (.c known)),(3, .val (.c permits)),(9, .val (.c out)),(11, .loc [p_0,(.int .i64 p_1)]),(14, .val (.c x14)),(15, .val (.c (.int .i64 x15))),(16, .val (.c (.int .i64 x16))),(23, .val (.c x23)),(24, .val (.c (.int .i64 x24))),(25, .val (.c (.int .i64 x25)))]) H
noncomputable def f102(M:Mach)(c:C)(s:Int)(H:Heap):Rs:=mrun M 102 0 [.val (.c c), .val (.c (.int .i64 s))] H
noncomputable def f103(M:Mach)(s1:C)(s2:C)(H:Heap):Rs:=mrun M 103 0 [.val (.c s1), .val (.c s2)] H
noncomputable def f106(M:Mach)(p_0:C)(p_1:Int)(x_0:Int)(x_1:Int)(x_2:Int)(H:Heap):Rs:=mrun M 106 0 [.val (.agg [p_0,(.int .i64 p_1)]), .val (.agg [(.int .i64 x_0),(.int .i64 x_1),(.int .i64 x_2)])] H
noncomputable def f48(M:Mach)(g_0:Int)(g_1:C)(g_2:C)(H:Heap):Rs:=mrun M 48 0 [.val (.agg [(.int .i64 g_0),g_1,g_2])] H
noncomputable def f50(M:Mach)(g_0:Int)(g_1:C)(g_2:C)(labels:C)(H:Heap):Rs:=mrun M 50 0 [.val (.agg [(.int .i64 g_0),g_1,g_2]), .val (.c labels)] H
noncomputable def f53(M:Mach)(c:C)(s:Int)(H:Heap):Rs:=mrun M 53 0 [.val (.c c), .val (.c (.int .i64 s))] H
noncomputable def f59(M:Mach)(s:C)(H:Heap):Rs:=mrun M 59 0 [.val (.c s)] H
noncomputable def f66(M:Mach)(g:C)(labels:C)(H:Heap):Rs:=mrun M 66 0 [.val (.c g), .val (.c labels)] H
noncomputable def f67(M:Mach)(g:C)(H:Heap):Rs:=mrun M 67 0 [.val (.c g)] H
noncomputable def f74(M:Mach)(g:C)(s:Int)(H:Heap):Rs:=mrun M 74 0 [.val (.c g), .val (.c (.int .i64 s))] H
noncomputable def f84(M:Mach)(c:C)(s:Int)(H:Heap):Rs:=mrun M 84 0 [.val (.c c), .val (.c (.int .i64 s))] H
noncomputable def f86(M:Mach)(c:C)(s:Int)(a:Int)(H:Heap):Rs:=mrun M 86 0 [.val (.c c), .val (.c (.int .i64 s)), .val (.c (.int .i64 a))] H
theorem K1n(M:Mach)(x_0:Int)(x_1:C)(x_2:C)(labels:C)(H:Heap):f40 M x_0 x_1 x_2 labels H=
 (f48 M x_0 x_1 x_2 H).bind fun q1=>
 (V.asC q1.1).bind fun c2=>
 (C.asI .i64 c2).bind fun n3=>
 (if(!decide (n3=0))=true then
 some ((.tuple [(.c .nilSlice),(.c (.int .i64 n3))]),q1.2)
 else
 (f50 M x_0 x_1 x_2 labels q1.2).bind fun q4=>
 (V.asC q4.1).bind fun c5=>
 (C.asI .i64 c5).bind fun n6=>
 (if(!decide (n6=0))=true then
 some ((.tuple [(.c .nilSlice),(.c (.int .i64 n6))]),q4.2)
 else
 (if 0<=x_0/\x_0<=2 ^ 36 then
 let H7:=Heap.alloc q4.2 (.cells 1 (List.replicate (Int.toNat x_0) [.nilSlice]).flatten)
 (f52 M x_0 x_1 x_2 labels (.slice q4.2.next 0 (Int.toNat x_0)) H7).bind fun q8=>
 (V.asC q8.1).bind fun c9=>
 f40_1 M x_0 x_1 x_2 c9 x_0 0 q8.2
 else
 none))):=by
 unfold f40 mrun;rw[q0L];kernel_rfl
theorem W0x(M:Mach)(x_0:Int)(x_1:C)(x_2:C)(o:C)(x34:Int)(x35:Int)(H:Heap):f40_1 M x_0 x_1 x_2 o x34 x35 H=
 (if(decide (x35<x34))=true then
 (withP o fun i1 o2=>
 (Heap.ld H i1 o2).bind fun c3=>
 (f74 M c3 x35 H).bind fun q4=>
 (V.asC q4.1).bind fun c5=>
 (withP o fun i6 o7=>
 (Heap.ld q4.2 i6 (o7+157)).bind fun c8=>
 (C.elem 1 c8 x35).bind fun q9=>
 (Heap.st M.lim q4.2 q9.1 q9.2 [c5]).bind fun H10=>
 (C.len c5).bind fun k11=>
 f40_2 M x_0 x_1 x_2 o x35 c5 x34 x35 c5 ((k11:Nat):Int) 0 H10))
 else
 f40_3 M o x_0 0 H):=by
 unfold f40_1 mrun;rw[q0L];kernel_rfl
theorem W0y(M:Mach)(x_0:Int)(x_1:C)(x_2:C)(o:C)(s:Int)(all:C)(x34:Int)(x35:Int)(x51:C)(x52:Int)(x53:Int)(H:Heap):f40_2 M x_0 x_1 x_2 o s all x34 x35 x51 x52 x53 H=
 (if(decide (x53<x52))=true then
 (C.elem 1 x51 x53).bind fun q1=>
 (Heap.ld H q1.1 q1.2).bind fun c2=>
 (C.asI .i64 c2).bind fun n3=>
 (withP o fun i4 o5=>
 (Heap.ld H i4 (o5+157)).bind fun c6=>
 let H7:=Heap.alloc H (.cells 1 [(.int .i64 n3)])
 (C.elem 1 c6 s).bind fun q8=>
 (Heap.st M.lim H7 q8.1 q8.2 [(.slice H.next 0 1)]).bind fun H9=>
 (f53 M o s H9).bind fun q10=>
 (V.ext q10.1 0).bind fun v11=>
 (V.asA v11).bind fun c12=>
 (headC c12).bind fun c13=>
 (C.asI .i64 c13).bind fun n14=>
 (headC (c12.drop 1)).bind fun c15=>
 (C.asI .i64 c15).bind fun n16=>
 (headC ((c12.drop 1).drop 1)).bind fun c17=>
 (if((((c12.drop 1).drop 1).drop 1)).length=0 then
 (V.ext q10.1 1).bind fun v18=>
 (V.asC v18).bind fun c19=>
 (C.asB c19).bind fun b20=>
 (if(!b20)=true then
 f40_1 M x_0 x_1 x_2 o x34 (IntKind.wrap .i64 (x35+1)) q10.2
 else
 (withP o fun i21 o22=>
 (Heap.ld q10.2 i21 (o22+157)).bind fun c23=>
 (C.elem 1 c23 s).bind fun q24=>
 (Heap.st M.lim q10.2 q24.1 q24.2 [all]).bind fun H25=>
 f40_2 M x_0 x_1 x_2 o s all x34 x35 x51 x52 (IntKind.wrap .i64 (x53+1)) H25))
 else
 none))
 else
 f40_1 M x_0 x_1 x_2 o x34 (IntKind.wrap .i64 (x35+1)) H):=by
 unfold f40_2 mrun;rw[q0L];kernel_rfl
theorem W0z(M:Mach)(o:C)(x83:Int)(x84:Int)(H:Heap):f40_3 M o x83 x84 H=
 (if(decide (x84<x83))=true then
 (f54 M o x84 H).bind fun q1=>
 (V.asC q1.1).bind fun c2=>
 (isNil .slice c2).bind fun b3=>
 (if(b3 !=true)=true then
 (withP o fun i4 o5=>
 (withP o fun i6 o7=>
 (Heap.ld q1.2 i4 (o5+157)).bind fun c8=>
 (Heap.ld q1.2 i6 o7).bind fun c9=>
 (f74 M c9 x84 q1.2).bind fun q10=>
 (V.asC q10.1).bind fun c11=>
 (if seenC q10.2 i4 (o5+157) .c (.c c8)=true then
 (C.elem 1 c8 x84).bind fun q12=>
 (Heap.st M.lim q10.2 q12.1 q12.2 [c11]).bind fun H13=>
 f40_4 M o x83 x84 H13
 else
 none)))
 else
 f40_4 M o x83 x84 q1.2)
 else
 (withP o fun i14 o15=>
 (Heap.ld H i14 (o15+157)).bind fun c16=>
 some ((.tuple [(.c c16),(.c (.int .i64 0))]),H))):=by
 unfold f40_3 mrun;rw[q0L];kernel_rfl
theorem W0A(M:Mach)(o:C)(x83:Int)(x84:Int)(H:Heap):f40_4 M o x83 x84 H=
 f40_3 M o x83 (IntKind.wrap .i64 (x84+1)) H:=by
 unfold f40_4 mrun;rw[q0L];kernel_rfl
theorem K1o(M:Mach)(x_0:Int)(x_1:C)(x_2:C)(labels:C)(c:C)(H:Heap):f52 M x_0 x_1 x_2 labels c H=
 (f61 M x_0 x_1 x_2 H).bind fun q1=>
 (V.asC q1.1).bind fun c2=>
 (f67 M c2 q1.2).bind fun q3=>
 (f66 M c2 labels q3.2).bind fun q4=>
 (V.asA q4.1).bind fun c5=>
 (headC c5).bind fun c6=>
 (C.asB c6).bind fun b7=>
 (headC (c5.drop 1)).bind fun c8=>
 (C.asB c8).bind fun b9=>
 (headC ((c5.drop 1).drop 1)).bind fun c10=>
 (C.asB c10).bind fun b11=>
 (headC (((c5.drop 1).drop 1).drop 1)).bind fun c12=>
 (C.asB c12).bind fun b13=>
 (headC ((((c5.drop 1).drop 1).drop 1).drop 1)).bind fun c14=>
 (C.asB c14).bind fun b15=>
 (headC (((((c5.drop 1).drop 1).drop 1).drop 1).drop 1)).bind fun c16=>
 (C.asB c16).bind fun b17=>
 (headC ((((((c5.drop 1).drop 1).drop 1).drop 1).drop 1).drop 1)).bind fun c18=>
 (C.asB c18).bind fun b19=>
 (headC (((((((c5.drop 1).drop 1).drop 1).drop 1).drop 1).drop 1).drop 1)).bind fun c20=>
 (C.asB c20).bind fun b21=>
 (headC ((((((((c5.drop 1).drop 1).drop 1).drop 1).drop 1).drop 1).drop 1).drop 1)).bind fun c22=>
 (C.asB c22).bind fun b23=>
 (headC (((((((((c5.drop 1).drop 1).drop 1).drop 1).drop 1).drop 1).drop 1).drop 1).drop 1)).bind fun c24=>
 (C.asB c24).bind fun b25=>
 (headC ((((((((((c5.drop 1).drop 1).drop 1).drop 1).drop 1).drop 1).drop 1).drop 1).drop 1).drop 1)).bind fun c26=>
 (C.asB c26).bind fun b27=>
 (headC (((((((((((c5.drop 1).drop 1).drop 1).drop 1).drop 1).drop 1).drop 1).drop 1).drop 1).drop 1).drop 1)).bind fun c28=>
 (C.asB c28).bind fun b29=>
 (if(((((((((((((c5.drop 1).drop 1).drop 1).drop 1).drop 1).drop 1).drop 1).drop 1).drop 1).drop 1).drop 1).drop 1)).length=0 then
 ((V.cells q3.1).bind fun xs30=>if xs30.length=144/\1+144<=(splice (.nilPtr::(List.replicate 156 (.bool false)++[.nilSlice])) 0 [c2]).length then(if([(.bool b7),(.bool b9),(.bool b11),(.bool b13),(.bool b15),(.bool b17),(.bool b19),(.bool b21),(.bool b23),(.bool b25),(.bool b27),(.bool b29)]:List C).length=12/\145+12<=(splice (splice (.nilPtr::(List.replicate 156 (.bool false)++[.nilSlice])) 0 [c2]) 1 xs30).length then(if([c]:List C).length=1/\157+1<=(splice (splice (splice (.nilPtr::(List.replicate 156 (.bool false)++[.nilSlice])) 0 [c2]) 1 xs30) 145 [(.bool b7),(.bool b9),(.bool b11),(.bool b13),(.bool b15),(.bool b17),(.bool b19),(.bool b21),(.bool b23),(.bool b25),(.bool b27),(.bool b29)]).length then some (splice (splice (splice (splice (.nilPtr::(List.replicate 156 (.bool false)++[.nilSlice])) 0 [c2]) 1 xs30) 145 [(.bool b7),(.bool b9),(.bool b11),(.bool b13),(.bool b15),(.bool b17),(.bool b19),(.bool b21),(.bool b23),(.bool b25),(.bool b27),(.bool b29)]) 157 [c])else none)else none)else none).bind fun cs31=>
 (if cs31.length=158 then
 let H32:=Heap.alloc q4.2 (.cells 158 cs31)
 some ((.c (.ptr q4.2.next 0)),H32)
 else
 none)
 else
 none):=by
 unfold f52 mrun;rw[q0L];kernel_rfl
theorem K1p(M:Mach)(c:C)(s:Int)(H:Heap):f54 M c s H=
 let H1:=Heap.alloc H (.cells 1 [c])
 (Heap.ld H1 H.next 0).bind fun c2=>
 (f84 M c2 s H1).bind fun q3=>
 (V.asC q3.1).bind fun c4=>
 (C.asB c4).bind fun b5=>
 (if b5=true then
 some ((.c .nilSlice),q3.2)
 else
 let H6:=Heap.alloc q3.2 (.map [])
 let H7:=Heap.alloc H6 (.cells 1 [(.int .i64 s)])
 let H8:=Heap.alloc H7 (.cells 2 [(.slice H6.next 0 1),(.int .i64 s)])
 f54_1 M s (.ptr H.next 0) (.map q3.2.next) (.func 85 [] [(.ptr H.next 0)]) (.slice H7.next 0 1) H8):=by
 unfold f54 mrun;rw[q0L];kernel_rfl
theorem k1T(M:Mach)(s:Int)(c:C)(known:C)(permits:C)(layer:C)(H:Heap):f54_1 M s c known permits layer H=
 (C.len layer).bind fun k1=>
 (if(decide (0<((k1:Nat):Int)))=true then
 (V.asP (.c c)).bind fun a2=>
 (Heap.ld H a2.1 a2.2).bind fun c3=>
 (f87 M c3 layer known permits H).bind fun q4=>
 (V.asC q4.1).bind fun c5=>
 (C.len c5).bind fun k6=>
 f54_2 M s c known permits c5 c5 ((k6:Nat):Int) 0 q4.2
 else
 some ((.c .nilSlice),H)):=by
 unfold f54_1 mrun;rw[q0L];kernel_rfl
theorem W0B(M:Mach)(s:Int)(c:C)(known:C)(permits:C)(layer:C)(x28:C)(x29:Int)(x30:Int)(H:Heap):f54_2 M s c known permits layer x28 x29 x30 H=
 (if(decide (x30<x29))=true then
 (C.elem 2 x28 x30).bind fun q1=>
 (Heap.ld H q1.1 q1.2).bind fun c2=>
 (Heap.ld H q1.1 (q1.2+1)).bind fun c3=>
 (C.asI .i64 c3).bind fun n4=>
 (if(decide (n4=s))=true then
 some ((.c c2),H)
 else
 f54_2 M s c known permits layer x28 x29 (IntKind.wrap .i64 (x30+1)) H)
 else
 f54_1 M s c known permits layer H):=by
 unfold f54_2 mrun;rw[q0L];kernel_rfl
theorem K1q(M:Mach)(g_0:Int)(g_1:C)(g_2:C)(H:Heap):f61 M g_0 g_1 g_2 H=
 (if 0<=g_0/\g_0<=2 ^ 36 then
 let H1:=Heap.alloc H (.cells 1 (List.replicate (Int.toNat g_0) [.nilSlice]).flatten)
 (if 0<=g_0/\g_0<=2 ^ 36 then
 let H2:=Heap.alloc H1 (.cells 12 (List.replicate (Int.toNat g_0) [.nilSlice, .nilSlice, .nilSlice, .nilSlice, .nilSlice, .nilSlice, .nilSlice, .nilSlice, .nilSlice, .nilSlice, .nilSlice, .nilSlice]).flatten)
 let H3:=Heap.alloc H2 (.cells 5 [(.int .i64 g_0),g_1,g_2,(.slice H.next 0 (Int.toNat g_0)),(.slice H1.next 0 (Int.toNat g_0))])
 (C.len g_2).bind fun k4=>
 f61_1 M (.ptr H2.next 0) g_2 ((k4:Nat):Int) 0 H3
 else
 none)
 else
 none):=by
 unfold f61 mrun;rw[q0L];kernel_rfl
theorem W0C(M:Mach)(x:C)(x16:C)(x17:Int)(x18:Int)(H:Heap):f61_1 M x x16 x17 x18 H=
 (if(decide (x18<x17))=true then
 (C.elem 3 x16 x18).bind fun q1=>
 (Heap.ld H q1.1 q1.2).bind fun c2=>
 (C.asI .i64 c2).bind fun n3=>
 (Heap.ld H q1.1 (q1.2+1)).bind fun c4=>
 (C.asI .i64 c4).bind fun n5=>
 (Heap.ld H q1.1 ((q1.2+1)+1)).bind fun c6=>
 (C.asI .i64 c6).bind fun n7=>
 (withP x fun i8 o9=>
 (withP x fun i10 o11=>
 (Heap.ld H i8 (o9+3)).bind fun c12=>
 (Heap.ld H i10 (o11+3)).bind fun c13=>
 (C.elem 1 c13 n3).bind fun q14=>
 (Heap.ld H q14.1 q14.2).bind fun c15=>
 let H16:=Heap.alloc H (.cells 1 [(.int .i64 x18)])
 (Heap.cellsOf H16 1 (.slice H.next 0 1)).bind fun xs17=>
 (Heap.app M.lim H16 1 c15 xs17 1).bind fun q18=>
 (if seenC q18.2 i8 (o9+3) .c (.c c12)=true then
 (C.elem 1 c12 n3).bind fun q19=>
 (Heap.st M.lim q18.2 q19.1 q19.2 [q18.1]).bind fun H20=>
 (withP x fun i21 o22=>
 (withP x fun i23 o24=>
 (Heap.ld H20 i21 (o22+4)).bind fun c25=>
 (C.elem 12 c25 n3).bind fun q26=>
 (Heap.ld H20 i23 (o24+4)).bind fun c27=>
 (C.elem 12 c27 n3).bind fun q28=>
 (if 0<=n7/\n7<((12:Nat):Int)then
 (Heap.ld H20 q28.1 (q28.2+Int.toNat n7*1)).bind fun c29=>
 let H30:=Heap.alloc H20 (.cells 1 [(.int .i64 x18)])
 (Heap.cellsOf H30 1 (.slice H20.next 0 1)).bind fun xs31=>
 (Heap.app M.lim H30 1 c29 xs31 1).bind fun q32=>
 (if seenC q32.2 i21 (o22+4) .c (.c c25)=true then
 (if 0<=n7/\n7<((12:Nat):Int)then
 (Heap.st M.lim q32.2 q26.1 (q26.2+Int.toNat n7*1) [q32.1]).bind fun H33=>
 f61_1 M x x16 x17 (IntKind.wrap .i64 (x18+1)) H33
 else
 none)
 else
 none)
 else
 none)))
 else
 none)))
 else
 some ((.c x),H)):=by
 unfold f61_1 mrun;rw[q0L];kernel_rfl
theorem K1r(M:Mach)(c:C)(s:Int)(H:Heap):f81 M c s H=
 let H1:=Heap.alloc H (.cells 1 [c])
 let H2:=Heap.alloc H1 (.cells 1 [(.int .i64 s)])
 (Heap.ld H2 H.next 0).bind fun c3=>
 (Heap.ld H2 H1.next 0).bind fun c4=>
 (C.asI .i64 c4).bind fun n5=>
 (f84 M c3 n5 H2).bind fun q6=>
 (V.asC q6.1).bind fun c7=>
 (C.asB c7).bind fun b8=>
 (if b8=true then
 some ((.c .nilSlice),q6.2)
 else
 let H9:=Heap.alloc q6.2 (.map [])
 (Heap.ld H9 H1.next 0).bind fun c10=>
 (C.asI .i64 c10).bind fun n11=>
 (Heap.mset M.lim H9 .int (.map q6.2.next) (.int .i64 n11) (.c (.bool true))).bind fun H12=>
 (Heap.ld H12 H1.next 0).bind fun c13=>
 (C.asI .i64 c13).bind fun n14=>
 let H15:=Heap.alloc H12 (.cells 1 [(.int .i64 n14)])
 (Heap.ld H15 H1.next 0).bind fun c16=>
 (C.asI .i64 c16).bind fun n17=>
 let H18:=Heap.alloc H15 (.cells 2 [(.slice H12.next 0 1),(.int .i64 n17)])
 f81_1 M (.ptr H.next 0) (.ptr H1.next 0) (.func 100 [] [(.ptr H.next 0),(.ptr H1.next 0)]) (.map q6.2.next) (.slice H15.next 0 1) H18):=by
 unfold f81 mrun;rw[q0L];kernel_rfl
theorem k1U(M:Mach)(c:C)(s:C)(depends:C)(known:C)(layer:C)(H:Heap):f81_1 M c s depends known layer H=
 (C.len layer).bind fun k1=>
 (if(decide (0<((k1:Nat):Int)))=true then
 (C.len layer).bind fun k2=>
 f81_2 M c s depends known layer .nilSlice layer ((k2:Nat):Int) 0 H
 else
 some ((.c .nilSlice),H)):=by
 unfold f81_1 mrun;rw[q0L];kernel_rfl
theorem W0D(M:Mach)(c:C)(s:C)(depends:C)(known:C)(layer:C)(best:C)(x29:C)(x30:Int)(x31:Int)(H:Heap):f81_2 M c s depends known layer best x29 x30 x31 H=
 (if(decide (x31<x30))=true then
 (C.elem 2 x29 x31).bind fun q1=>
 (Heap.ld H q1.1 q1.2).bind fun c2=>
 (Heap.ld H q1.1 (q1.2+1)).bind fun c3=>
 (C.asI .i64 c3).bind fun n4=>
 (V.asP (.c c)).bind fun a5=>
 (Heap.ld H a5.1 a5.2).bind fun c6=>
 (f102 M c6 n4 H).bind fun q7=>
 (V.asC q7.1).bind fun c8=>
 (C.len c8).bind fun k9=>
 f81_3 M c s depends known layer best c2 n4 x29 x30 x31 c8 ((k9:Nat):Int) 0 q7.2
 else
 (isNil .slice best).bind fun b10=>
 (if(b10 !=true)=true then
 some ((.c best),H)
 else
 (V.asP (.c c)).bind fun a11=>
 (Heap.ld H a11.1 a11.2).bind fun c12=>
 (f87 M c12 layer known (.func 104 [] [c,s]) H).bind fun q13=>
 (V.asC q13.1).bind fun c14=>
 f81_1 M c s depends known c14 q13.2)):=by
 unfold f81_2 mrun;rw[q0L];kernel_rfl
theorem W0E(M:Mach)(c:C)(s:C)(depends:C)(known:C)(layer:C)(best:C)(p_0:C)(p_1:Int)(x29:C)(x30:Int)(x31:Int)(x38:C)(x39:Int)(x40:Int)(H:Heap):f81_3 M c s depends known layer best p_0 p_1 x29 x30 x31 x38 x39 x40 H=
 (if(decide (x40<x39))=true then
 (C.elem 3 x38 x40).bind fun q1=>
 (Heap.ld H q1.1 q1.2).bind fun c2=>
 (C.asI .i64 c2).bind fun n3=>
 (Heap.ld H q1.1 (q1.2+1)).bind fun c4=>
 (C.asI .i64 c4).bind fun n5=>
 (Heap.ld H q1.1 ((q1.2+1)+1)).bind fun c6=>
 (C.asI .i64 c6).bind fun n7=>
 (f59 M p_0 H).bind fun q8=>
 (V.asC q8.1).bind fun c9=>
 let H10:=Heap.alloc q8.2 (.cells 1 [(.int .i64 n7)])
 (Heap.cellsOf H10 1 (.slice q8.2.next 0 1)).bind fun xs11=>
 (Heap.app M.lim H10 1 c9 xs11 1).bind fun q12=>
 (V.asP (.c c)).bind fun a13=>
 (Heap.ld q12.2 a13.1 a13.2).bind fun c14=>
 (V.asP (.c s)).bind fun a15=>
 (Heap.ld q12.2 a15.1 a15.2).bind fun c16=>
 (C.asI .i64 c16).bind fun n17=>
 (f86 M c14 n17 n7 q12.2).bind fun q18=>
 (V.asC q18.1).bind fun c19=>
 (C.asB c19).bind fun b20=>
 (if(!b20)=true then
 (C.asF depends).bind fun g22=>
 (mcall M g22.1 (g22.2.1.map .c++[(.c (.int .i64 n7))]++g22.2.2.map .c) q18.2).bind fun q23=>
 (V.asC q23.1).bind fun c24=>
 (C.asB c24).bind fun b25=>
 some (b25,q23.2)
 else
 some (!b20,q18.2)).bind fun q21=>
 (if q21.1=true then
 (isNil .slice best).bind fun b27=>
 (if(b27 !=false)=false then
 (f103 M q12.1 best q21.2).bind fun q29=>
 (V.asC q29.1).bind fun c30=>
 (C.asI .i64 c30).bind fun n31=>
 some (decide (n31<0),q29.2)
 else
 some (b27 !=false,q21.2)).bind fun q28=>
 some (q28.1,q28.2)
 else
 some (q21.1,q21.2)).bind fun q26=>
 (if q26.1=true then
 f81_4 M c s depends known layer q12.1 p_0 p_1 x29 x30 x31 x38 x39 x40 q26.2
 else
 f81_4 M c s depends known layer best p_0 p_1 x29 x30 x31 x38 x39 x40 q26.2)
 else
 f81_2 M c s depends known layer best x29 x30 (IntKind.wrap .i64 (x31+1)) H):=by
 unfold f81_3 mrun;rw[q0L];kernel_rfl
theorem k0n(M:Mach)(c:C)(s:C)(depends:C)(known:C)(layer:C)(best:C)(p_0:C)(p_1:Int)(x29:C)(x30:Int)(x31:Int)(x38:C)(x39:Int)(x40:Int)(H:Heap):f81_4 M c s depends known layer best p_0 p_1 x29 x30 x31 x38 x39 x40 H=
 f81_3 M c s depends known layer best p_0 p_1 x29 x30 x31 x38 x39 (IntKind.wrap .i64 (x40+1)) H:=by
 unfold f81_4 mrun;rw[q0L];kernel_rfl
theorem K1s(M:Mach)(c:C)(layer:C)(known:C)(permits:C)(H:Heap):f87 M c layer known permits H=
 (C.len layer).bind fun k1=>
 f87_1 M c known permits .nilSlice layer ((k1:Nat):Int) 0 H:=by
 unfold f87 mrun;rw[q0L];kernel_rfl
theorem W0F(M:Mach)(c:C)(known:C)(permits:C)(out:C)(x14:C)(x15:Int)(x16:Int)(H:Heap):f87_1 M c known permits out x14 x15 x16 H=
 (if(decide (x16<x15))=true then
 (C.elem 2 x14 x16).bind fun q1=>
 (Heap.ld H q1.1 q1.2).bind fun c2=>
 (Heap.ld H q1.1 (q1.2+1)).bind fun c3=>
 (C.asI .i64 c3).bind fun n4=>
 (f102 M c n4 H).bind fun q5=>
 (V.asC q5.1).bind fun c6=>
 (C.len c6).bind fun k7=>
 f87_2 M c known permits out c2 n4 x14 x15 x16 c6 ((k7:Nat):Int) 0 q5.2
 else
 some ((.c out),H)):=by
 unfold f87_1 mrun;rw[q0L];kernel_rfl
theorem W0G(M:Mach)(c:C)(known:C)(permits:C)(out:C)(p_0:C)(p_1:Int)(x14:C)(x15:Int)(x16:Int)(x23:C)(x24:Int)(x25:Int)(H:Heap):f87_2 M c known permits out p_0 p_1 x14 x15 x16 x23 x24 x25 H=
 (if(decide (x25<x24))=true then
 (C.elem 3 x23 x25).bind fun q1=>
 (Heap.ld H q1.1 q1.2).bind fun c2=>
 (C.asI .i64 c2).bind fun n3=>
 (Heap.ld H q1.1 (q1.2+1)).bind fun c4=>
 (C.asI .i64 c4).bind fun n5=>
 (Heap.ld H q1.1 ((q1.2+1)+1)).bind fun c6=>
 (C.asI .i64 c6).bind fun n7=>
 (C.asF permits).bind fun g8=>
 (mcall M g8.1 (g8.2.1.map .c++[(.agg [(.int .i64 n3),(.int .i64 n5),(.int .i64 n7)])]++g8.2.2.map .c) H).bind fun q9=>
 (V.asC q9.1).bind fun c10=>
 (C.asB c10).bind fun b11=>
 (if b11=true then
 (Heap.getMap q9.2 known).bind fun es13=>
 (findK .int (.int .i64 n5) es13).bind fun r14=>
 (V.asC (r14.getD (.c (.bool false)))).bind fun c15=>
 (C.asB c15).bind fun b16=>
 some (!b16,q9.2)
 else
 some (b11,q9.2)).bind fun q12=>
 (if q12.1=true then
 (Heap.mset M.lim q12.2 .int known (.int .i64 n5) (.c (.bool true))).bind fun H17=>
 (f106 M p_0 p_1 n3 n5 n7 H17).bind fun q18=>
 (V.asA q18.1).bind fun c19=>
 (headC c19).bind fun c20=>
 (headC (c19.drop 1)).bind fun c21=>
 (C.asI .i64 c21).bind fun n22=>
 (if(((c19.drop 1).drop 1)).length=0 then
 let H23:=Heap.alloc q18.2 (.cells 2 [c20,(.int .i64 n22)])
 (Heap.cellsOf H23 2 (.slice q18.2.next 0 1)).bind fun xs24=>
 (Heap.app M.lim H23 2 out xs24 1).bind fun q25=>
 f87_3 M c known permits q25.1 p_0 p_1 x14 x15 x16 x23 x24 x25 q25.2
 else
 none)
 else
 f87_3 M c known permits out p_0 p_1 x14 x15 x16 x23 x24 x25 q12.2)
 else
 f87_1 M c known permits out x14 x15 (IntKind.wrap .i64 (x16+1)) H):=by
 unfold f87_2 mrun;rw[q0L];kernel_rfl
theorem J0k(M:Mach)(c:C)(known:C)(permits:C)(out:C)(p_0:C)(p_1:Int)(x14:C)(x15:Int)(x16:Int)(x23:C)(x24:Int)(x25:Int)(H:Heap):f87_3 M c known permits out p_0 p_1 x14 x15 x16 x23 x24 x25 H=
 f87_2 M c known permits out p_0 p_1 x14 x15 x16 x23 x24 (IntKind.wrap .i64 (x25+1)) H:=by
 unfold f87_3 mrun;rw[q0L];kernel_rfl
end Go.Proofs.Ythjjbkiejkhjfaa.R
