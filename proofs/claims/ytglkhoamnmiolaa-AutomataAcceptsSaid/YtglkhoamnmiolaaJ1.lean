/- - -/
import Derived.Test.YtglkhoamnmiolaaProg
import Derived.Test.YtglkhoamnmiolaaE9
import Derived.KernelRfl
set_option linter.all false
namespace Go.Proofs.Ytglkhoamnmiolaa.R
open Go Go.Proofs.Ytglkhoamnmiolaa.Vm
abbrev Oo(d:Nat)(o:ROp)(r:Ops):Ops:= .op (some d) o r
abbrev Tt(n:Nat):X:= .t n
abbrev Nn(n:Int):X:= .c (.c (.int .i64 n))
abbrev Jj:K0:= .int .i64
abbrev Oj:KD:= .one (.int .i64)
abbrev Ob':KD:= .one .bool
abbrev Oc':KD:= .one .c
abbrev Ce(x y:X):ROp:= .cmp .eql .i64 x y
abbrev Cn'(x y:X):ROp:= .cmp .neq .i64 x y
abbrev Cl(x y:X):ROp:= .cmp .lss .i64 x y
abbrev Dd(d:Nat)(k:K0)(n:Nat):Ops->Ops:= .op (some d) (.ld k (.t n))
abbrev Xf(d o n:Nat):Ops->Ops:= .op (some d) (.fld o (.t n))
abbrev Xi(d s a b:Nat):Ops->Ops:= .op (some d) (.idx s (.t a) (.t b))
abbrev Xp(d a:Nat)(n:Int):Ops->Ops:= .op (some d) (.ar .add .i64 (.t a) (.c (.c (.int .i64 n))))
abbrev Xj(d q n:Nat):Ops->Ops:= .op (some d) (.ldL q (.int .i64) (.t n))
abbrev Xc(d q n:Nat):Ops->Ops:= .op (some d) (.ldL q .c (.t n))
abbrev Xn(d:Nat)(n:Int):Ops->Ops:= .op (some d) (.mov (.c (.c (.int .i64 n))))
abbrev Xl(d n:Nat):Ops->Ops:= .op (some d) (.len (.t n))
abbrev Xb(d a b:Nat):Ops->Ops:= .op (some d) (.cmp .lss .i64 (.t a) (.t b))
abbrev X0(d:Nat):Ops->Ops:= .op (some d) (.mov (.c (.c .nilSlice)))
abbrev Xk(d n:Nat):Ops->Ops:= .op (some d) (.nilck (.t n))
abbrev Xt(d n:Nat):Ops->Ops:= .op (some d) (.not (.t n))
abbrev Xa(d s a b:Nat):Ops->Ops:= .op (some d) (.app s (.t a) (.t b))
abbrev X1(d f:Nat)(k:KD)(a:Nat):Ops->Ops:= .op (some d) (.call f k [.t a])
abbrev X2(d f:Nat)(k:KD)(a b:Nat):Ops->Ops:= .op (some d) (.call f k [.t a, .t b])
abbrev X3(d f:Nat)(k:KD)(a b c:Nat):Ops->Ops:= .op (some d) (.call f k [.t a, .t b, .t c])
abbrev X4(d f:Nat)(k:KD)(a b c e:Nat):Ops->Ops:= .op (some d) (.call f k [.t a, .t b, .t c, .t e])
abbrev Xe(d:Nat)(k:KD)(a i:Nat):Ops->Ops:= .op (some d) (.ext k (.t a) i)
abbrev Mo(d n:Nat):Ops->Ops:= .op (some d) (.mov (.t n))
noncomputable abbrev pg:=Go.Proofs.Try.prog
def rf4:RFunc:=⟨117,[.t 4], .seq (.ops (.lbox 4 2 (Tt 0)<| .lbox 2 3 (Tt 1)<|Oo 4 (.mov (.c (.c (.bool false))))<| .nil)) (.seq (.seq (.ops (Oo 11 (.call 8 Ob' [])<|Xt 12 11<| .nil)) (.cond (Tt 12) (.seq (.ops (Oo 4 (.mov (.c (.c (.bool false))))<| .nil)) (.ret)) (.skip) none)) (.seq (.seq (.ops (Oo 13 (.ldsL 2 [Jj, .c, .c, .c] (Tt 2))<|X1 14 9 Ob' 13<|Xt 15 14<|Mo 16 15<| .logic false 16 (Oo 17 (.ldsL 3 [.c, .c] (Tt 3))<|X1 18 17 Ob' 17<|Xt 19 18<| .nil) (Tt 19) 20<|Mo 21 20<| .logic false 21 (Xf 22 0 3<|Xc 23 3 22<|Xl 24 23<|Xf 25 1 3<|Xc 26 3 25<|Xl 27 26<|Oo 28 (.ar .add .i64 (Tt 24) (Tt 27))<|Oo 29 (.cmp .gtr .i64 (Tt 28) (Nn 12))<|Mo 30 29<| .logic true 30 (Oo 31 (.ldsL 3 [.c, .c] (Tt 3))<|X1 32 15 Oj 31<|Oo 33 (Ce (Tt 32) (Nn 0))<| .nil) (Tt 33) 34<| .nil) (Tt 34) 35<| .nil)) (.cond (Tt 35) (.seq (.ops (Oo 4 (.mov (.c (.c (.bool true))))<| .nil)) (.ret)) (.skip) none)) (.seq (.dops [0,2,1,3,4,5,6,7,8,9] [5,6,36,37,38,39,40,41,42,43] [] (Oo 37 (.ldsL 2 [Jj, .c, .c, .c] (Tt 2))<|Oo 39 (.ldsL 3 [.c, .c] (Tt 3))<|Oo 38 (.call 11 (.agg [Jj, .c, .c, .c]) [(Tt 37)])<|Oo 40 (.call 19 (.agg [.c, .c]) [(Tt 39)])<|X2 41 18 .any 38 40<|Mo 36 41<|Xe 42 Ob' 36 0<|Xe 43 Oj 36 1<|Mo 5 42<|Mo 6 43<| .nil)) (.seq (.dops [0,2,8,1,3,4,5,6,7,9,10] [7,8,44,45,46,47,48,49,50,51] [] (Oo 45 (.ldsL 2 [Jj, .c, .c, .c] (Tt 2))<|Oo 47 (.ldsL 3 [.c, .c] (Tt 3))<| .lnew 7 [.nilSlice, .nilSlice]<|Oo 46 (.call 11 (.agg [Jj, .c, .c, .c]) [(Tt 45)])<|Oo 48 (.call 19 (.agg [.c, .c]) [(Tt 47)])<|X2 49 20 .any 46 48<|Mo 44 49<|Oo 50 (.ext (.agg [.c, .c]) (Tt 44) 0)<|Xe 51 Oj 44 1<| .st (some 7) 2 (Tt 7) (Tt 50)<|Mo 8 51<| .nil)) (.seq (.ops (Oo 52 (.ldsL 2 [Jj, .c, .c, .c] (Tt 2))<|X1 53 12 Oj 52<|Mo 9 53<| .nil)) (.seq (.seq (.ops (Mo 54 9<|Oo 55 (Ce (Tt 54) (Nn 0))<| .nil)) (.cond (Tt 55) (.ops (Oo 56 (.ldsL 3 [.c, .c] (Tt 3))<|X1 57 15 Oj 56<|Mo 9 57<| .nil)) (.skip) (some (1,[0,1,4,11,12,13,14,15,16,17,18,19,20,21,22,23,24,25,26,27,28,29,30,31,32,33,34,35,36,37,38,39,40,41,42,43,44,45,46,47,48,49,50,51,52,53,54,55,56,57])))) (.seq (.seq (.ops (Mo 58 9<|Oo 59 (Cn' (Tt 58) (Nn 0))<| .nil)) (.cond (Tt 59) (.seq (.ops (Mo 60 6<|Mo 61 9<|Oo 62 (Ce (Tt 60) (Tt 61))<|Mo 63 62<| .logic true 63 (Mo 64 5<|Xt 65 64<| .nil) (Tt 65) 66<|Mo 67 66<| .logic true 67 (Mo 68 8<|Mo 69 9<|Oo 70 (Ce (Tt 68) (Tt 69))<| .nil) (Tt 70) 71<|Mo 72 71<| .logic true 72 (Oo 73 (.ldsL 7 [.c, .c] (Tt 7))<|Oo 74 (.build [.nilSlice, .nilSlice] [])<|X2 75 21 Ob' 73 74<| .nil) (Tt 75) 76<|Mo 4 76<| .nil)) (.ret)) (.skip) none)) (.seq (.ops (Oo 77 (.ldsL 2 [Jj, .c, .c, .c] (Tt 2))<|Oo 78 (.ldsL 3 [.c, .c] (Tt 3))<|X2 79 16 Ob' 77 78<|Mo 10 79<| .nil)) (.seq (.seq (.ops (Mo 80 6<|Oo 81 (Cn' (Tt 80) (Nn 0))<|Mo 82 81<| .logic false 82 (Mo 83 5<|Mo 84 10<|Oo 85 (.eqB true (Tt 83) (Tt 84))<| .nil) (Tt 85) 86<| .nil)) (.cond (Tt 86) (.seq (.ops (Oo 4 (.mov (.c (.c (.bool false))))<| .nil)) (.ret)) (.skip) none)) (.seq (.seq (.ops (Mo 87 10<|Xt 88 87<| .nil)) (.cond (Tt 88) (.seq (.ops (Mo 89 8<|Oo 90 (Ce (Tt 89) (Nn 25))<|Mo 91 90<| .logic true 91 (Oo 92 (.ldsL 7 [.c, .c] (Tt 7))<|Oo 93 (.build [.nilSlice, .nilSlice] [])<|X2 94 21 Ob' 92 93<| .nil) (Tt 94) 95<|Mo 4 95<| .nil)) (.ret)) (.skip) none)) (.seq (.seq (.ops (Mo 96 8<|Oo 97 (Cn' (Tt 96) (Nn 0))<|Mo 98 97<| .logic false 98 (Xf 99 0 7<|Xc 100 7 99<|Xl 101 100<|Xf 102 1 7<|Xc 103 7 102<|Xl 104 103<|Oo 105 (.ar .add .i64 (Tt 101) (Tt 104))<|Oo 106 (.cmp .gtr .i64 (Tt 105) (Nn 20000))<| .nil) (Tt 106) 107<| .nil)) (.cond (Tt 107) (.seq (.ops (Oo 4 (.mov (.c (.c (.bool false))))<| .nil)) (.ret)) (.skip) none)) (.seq (.ops (Oo 109 (.ldsL 2 [Jj, .c, .c, .c] (Tt 2))<|Oo 110 (.ldsL 3 [.c, .c] (Tt 3))<|Oo 111 (.ldsL 7 [.c, .c] (Tt 7))<|X3 112 22 .any 109 110 111<|Mo 108 112<|Xe 113 Oj 108 0<|Xe 114 Oj 108 1<|Mo 9 114<| .nil)) (.seq (.ops (Mo 115 9<|Oo 116 (Ce (Tt 115) (Nn 0))<|Mo 4 116<| .nil)) (.ret))))))))))))))⟩
theorem ok4:chkFunc pg 4 rf4=true:=by kernel_rfl
def rf8:RFunc:=⟨53,[.t 0], .seq (.ops (Oo 0 (.mov (.c (.c (.bool false))))<| .nil)) (.seq (.ops (Oo 8 (.call 35 (.agg [Jj, .c, .c, .c]) [])<|Oo 9 (.lit 1 1 [(.int .i64 0)] [(0,1,(Nn 1))])<|Oo 10 (.build [.nilSlice, .nilSlice] [(1,1,(Tt 9))])<|X2 11 18 .any 8 10<|Mo 7 11<|Xe 12 Ob' 7 0<|Xe 13 Oj 7 1<|Mo 1 12<|Mo 2 13<| .nil)) (.seq (.ops (Oo 15 (.call 35 (.agg [Jj, .c, .c, .c]) [])<|Oo 16 (.lit 1 2 [(.int .i64 0),(.int .i64 0)] [(0,1,(Nn 1)),(1,1,(Nn 0))])<|Oo 17 (.build [.nilSlice, .nilSlice] [(1,1,(Tt 16))])<|X2 18 18 .any 15 17<|Mo 14 18<|Xe 19 Ob' 14 0<|Xe 20 Oj 14 1<|Mo 3 19<|Mo 4 20<| .nil)) (.seq (.ops (Oo 22 (.call 35 (.agg [Jj, .c, .c, .c]) [])<|X1 23 10 .any 22<|Mo 21 23<|Oo 24 (.ext (.agg [.c, .c]) (Tt 21) 0)<|Xe 25 Oj 21 1<| .lnew 5 [.nilSlice, .nilSlice]<| .st (some 5) 2 (Tt 5) (Tt 24)<|Mo 6 25<| .nil)) (.seq (.dops [0,1,2,3,4,5,6,7,8,9,10,11,12,13,14,15,16,17,18,19,20,21,22,24,23,25,26,27] [0,26,27,28,29,30,31,32,33,34,35,36,37,38,39,40,41,42,43,44,45,46,47,48,49,50,51,52] [] (Mo 26 2<|Oo 27 (Ce (Tt 26) (Nn 0))<|Mo 28 27<| .logic true 28 (Mo 29 1<| .nil) (Tt 29) 30<|Mo 31 30<| .logic true 31 (Mo 32 4<|Oo 33 (Ce (Tt 32) (Nn 0))<| .nil) (Tt 33) 34<|Mo 35 34<| .logic true 35 (Mo 36 3<|Xt 37 36<| .nil) (Tt 37) 38<|Mo 39 38<| .logic true 39 (Mo 40 6<|Oo 41 (Ce (Tt 40) (Nn 0))<| .nil) (Tt 41) 42<|Mo 43 42<| .logic true 43 (Oo 44 (.ldsL 5 [.c, .c] (Tt 5))<|X1 45 15 Oj 44<|Oo 46 (Ce (Tt 45) (Nn 0))<| .nil) (Tt 46) 47<|Mo 48 47<| .logic true 48 (Oo 50 (.ldsL 5 [.c, .c] (Tt 5))<|Oo 49 (.call 35 (.agg [Jj, .c, .c, .c]) [])<|X2 51 16 Ob' 49 50<| .nil) (Tt 51) 52<|Mo 0 52<| .nil)) (.ret)))))⟩
theorem ok8:chkFunc pg 8 rf8=true:=by kernel_rfl
def rf9:RFunc:=⟨44,[.t 2], .seq (.ops (.lbox 4 1 (Tt 0)<|Oo 2 (.mov (.c (.c (.bool false))))<| .nil)) (.seq (.seq (.ops (Xf 4 0 1<|Xj 5 1 4<|Oo 6 (.cmp .gtr .i64 (Tt 5) (Nn 30))<|Mo 7 6<| .logic true 7 (Xf 8 0 1<|Xj 9 1 8<|Oo 10 (.cmp .leq .i64 (Tt 9) (Nn 300))<| .nil) (Tt 10) 11<|Mo 12 11<| .logic false 12 (Xf 13 2 1<|Xc 14 1 13<|Xl 15 14<|Oo 16 (.cmp .gtr .i64 (Tt 15) (Nn 60))<| .nil) (Tt 16) 17<|Mo 18 17<| .logic false 18 (Xf 19 1 1<|Xc 20 1 19<|Xl 21 20<|Oo 22 (.cmp .gtr .i64 (Tt 21) (Nn 40))<| .nil) (Tt 22) 23<|Mo 24 23<| .logic false 24 (Xf 25 3 1<|Xc 26 1 25<|Xl 27 26<|Oo 28 (.cmp .gtr .i64 (Tt 27) (Nn 12))<| .nil) (Tt 28) 29<| .nil)) (.cond (Tt 29) (.seq (.ops (Oo 2 (.mov (.c (.c (.bool false))))<| .nil)) (.ret)) (.skip) none)) (.seq (.seq (.ops (Xn 3 0<| .nil)) (.block 0 (.loop 1 [0,2,4,5,6,7,8,9,10,11,12,13,14,15,16,17,18,19,20,21,22,23,24,25,26,27,28,29,30,31,32,33,34,35,36,37,38,39,40,41,42,43] (.seq (.seq (.ops (Mo 30 3<|Xf 31 3 1<|Xc 32 1 31<|Xl 33 32<|Xb 34 30 33<| .nil)) (.cond (Tt 34) (.skip) (.exit 0) none)) (.seq (.block 1 (.seq (.ops (Xf 37 3 1<|Xc 38 1 37<|Mo 39 3<|Xi 40 1 38 39<|Dd 41 .c 40<|Xl 42 41<|Oo 43 (.cmp .gtr .i64 (Tt 42) (Nn 40))<| .nil)) (.cond (Tt 43) (.seq (.ops (Oo 2 (.mov (.c (.c (.bool false))))<| .nil)) (.ret)) (.skip) none))) (.ops (Mo 35 3<|Xp 36 35 1<|Mo 3 36<| .nil))))))) (.seq (.ops (Oo 2 (.mov (.c (.c (.bool true))))<| .nil)) (.ret))))⟩
theorem ok9:chkFunc pg 9 rf9=true:=by kernel_rfl
def rf10:RFunc:=⟨15,[.cells 2 2, .t 3], .seq (.ops (.lbox 4 1 (Tt 0)<| .lnew 2 [.nilSlice, .nilSlice]<|Xn 3 0<| .nil)) (.seq (.seq (.ops (Oo 5 (.ldsL 1 [Jj, .c, .c, .c] (Tt 1))<|X1 6 36 Oj 5<|Mo 4 6<| .nil)) (.seq (.ops (Mo 7 4<|Oo 8 (Cn' (Tt 7) (Nn 0))<| .nil)) (.cond (Tt 8) (.seq (.ops (Oo 9 (.build [.nilSlice, .nilSlice] [])<|Mo 10 4<| .st (some 2) 2 (Tt 2) (Tt 9)<|Mo 3 10<| .nil)) (.ret)) (.skip) none))) (.seq (.ops (Oo 11 (.ldsL 1 [Jj, .c, .c, .c] (Tt 1))<|X1 12 37 .any 11<|Oo 13 (.ext (.agg [.c, .c]) (Tt 12) 0)<|Xe 14 Oj 12 1<| .st (some 2) 2 (Tt 2) (Tt 13)<|Mo 3 14<| .nil)) (.ret)))⟩
theorem K1V:chkFunc pg 10 rf10=true:=by kernel_rfl
def rf11:RFunc:=⟨16,[.cells 2 4], .seq (.ops (.lbox 4 1 (Tt 0)<| .lnew 2 [(.int .i64 0), .nilSlice, .nilSlice, .nilSlice]<| .nil)) (.seq (.dops [0,1,2,3,6,7,9,10,4,5,8,11,12,13] [3,4,5,6,7,8,9,10,11,12,13,14,15] [] (Xf 3 0 1<|Xj 4 1 3<|Xf 5 1 1<|Xc 6 1 5<|Xf 9 2 1<|Xc 10 1 9<|Xf 12 3 1<|Xc 13 1 12<|X1 7 38 Oc' 6<|Oo 8 (.lit 4 0 [] [])<|Xa 11 4 8 10<|X1 14 39 Oc' 13<|Oo 15 (.build [(.int .i64 0), .nilSlice, .nilSlice, .nilSlice] [(0,1,(Tt 4)),(1,1,(Tt 7)),(2,1,(Tt 11)),(3,1,(Tt 14))])<| .st (some 2) 4 (Tt 2) (Tt 15)<| .nil)) (.ret))⟩
theorem K1W:chkFunc pg 11 rf11=true:=by kernel_rfl
def rf12:RFunc:=⟨11,[.t 2], .seq (.ops (.lbox 4 1 (Tt 0)<|Xn 2 0<| .nil)) (.seq (.ops (Oo 6 (.ldsL 1 [Jj, .c, .c, .c] (Tt 1))<|X1 7 27 .any 6<|Mo 5 7<|Xe 8 Oj 5 0<|Xe 9 Oj 5 1<|Mo 3 8<|Mo 4 9<| .nil)) (.seq (.ops (Mo 10 4<|Mo 2 10<| .nil)) (.ret)))⟩
theorem K1X:chkFunc pg 12 rf12=true:=by kernel_rfl
def rf15:RFunc:=⟨32,[.t 2], .seq (.ops (.lbox 2 1 (Tt 0)<|Xn 2 0<| .nil)) (.seq (.seq (.ops (Xf 4 1 1<|Xc 5 1 4<|Xl 6 5<|Oo 7 (Ce (Tt 6) (Nn 0))<| .nil)) (.cond (Tt 7) (.seq (.ops (Xn 2 1<| .nil)) (.ret)) (.skip) none)) (.seq (.seq (.ops (Xf 8 0 1<|Xc 9 1 8<|Xl 10 9<|Xf 11 1 1<|Xc 12 1 11<|Xl 13 12<|Oo 14 (.ar .add .i64 (Tt 10) (Tt 13))<|Oo 15 (.cmp .gtr .i64 (Tt 14) (Nn 60))<| .nil)) (.cond (Tt 15) (.seq (.ops (Xn 2 2<| .nil)) (.ret)) (.skip) none)) (.seq (.seq (.ops (Xn 3 0<| .nil)) (.block 0 (.loop 1 [0,2,4,5,6,7,8,9,10,11,12,13,14,15,16,17,18,19,20,21,22,23,24,25,26,27,28,29,30,31] (.seq (.seq (.ops (Mo 16 3<|Xf 17 0 1<|Xc 18 1 17<|Xl 19 18<|Xf 20 1 1<|Xc 21 1 20<|Xl 22 21<|Oo 23 (.ar .add .i64 (Tt 19) (Tt 22))<|Xb 24 16 23<| .nil)) (.cond (Tt 24) (.skip) (.exit 0) none)) (.seq (.block 1 (.seq (.ops (Oo 27 (.ldsL 1 [.c, .c] (Tt 1))<|Mo 28 3<|X2 29 42 Oj 27 28<|Oo 30 (.call 41 Ob' [(Tt 29),(Nn 0),(Nn 4095)])<|Xt 31 30<| .nil)) (.cond (Tt 31) (.seq (.ops (Xn 2 3<| .nil)) (.ret)) (.skip) none))) (.ops (Mo 25 3<|Xp 26 25 1<|Mo 3 26<| .nil))))))) (.seq (.ops (Xn 2 0<| .nil)) (.ret)))))⟩
theorem K1Y:chkFunc pg 15 rf15=true:=by kernel_rfl
def rf16:RFunc:=⟨150,[.t 4], .seq (.ops (.lbox 4 2 (Tt 0)<| .lbox 2 3 (Tt 1)<|Oo 4 (.mov (.c (.c (.bool false))))<| .nil)) (.seq (.ops (Xf 18 0 3<|Xc 19 3 18<|Xl 20 19<|Xf 21 1 3<|Xc 22 3 21<|Xl 23 22<|Oo 24 (.ar .add .i64 (Tt 20) (Tt 23))<|Mo 5 24<| .nil)) (.seq (.ops (Xf 25 0 2<|Xj 26 2 25<|Mo 27 5<|Oo 28 (.ar .mul .i64 (Tt 26) (Tt 27))<|Oo 29 (.mkS 1 [.nilSlice] (Tt 28))<|Mo 6 29<| .nil)) (.seq (.seq (.ops (Xn 7 0<| .nil)) (.block 0 (.loop 1 [0,1,4,8,9,10,18,19,20,21,22,23,24,25,26,27,28,29,30,31,32,33,34,35,36,37,38,39,40,41,42,43,44,45,46,47,48,49,50,51,52,53,54,55,56,57,58,59,60,61,62,63,64,65,66,67,68,69,70,71,72,73,74,75,76,77,78,79,80,81,82,83,84] (.seq (.seq (.ops (Mo 30 7<|Mo 31 5<|Xb 32 30 31<| .nil)) (.cond (Tt 32) (.skip) (.exit 0) none)) (.seq (.block 1 (.seq (.ops (Mo 35 7<|Xp 36 35 1<|Mo 8 36<| .nil)) (.seq (.seq (.ops (Mo 37 8<|Mo 38 5<|Oo 39 (Ce (Tt 37) (Tt 38))<| .nil)) (.cond (Tt 39) (.ops (Xf 40 0 3<|Xc 41 3 40<|Xl 42 41<|Mo 8 42<| .nil)) (.skip) (some (2,[30,31,32,35,36,37,38,39,40,41,42])))) (.seq (.ops (Xn 9 0<| .nil)) (.block 2 (.loop 3 [10,43,44,45,46,47,48,49,50,51,52,53,54,55,56,57,58,59,60,61,62,63,64,65,66,67,68,69,70,71,72,73,74,75,76,77,78,79,80,81,82,83,84] (.seq (.seq (.ops (Mo 43 9<|Xf 44 2 2<|Xc 45 2 44<|Xl 46 45<|Xb 47 43 46<| .nil)) (.cond (Tt 47) (.skip) (.exit 2) none)) (.seq (.block 3 (.seq (.ops (Xf 50 2 2<|Xc 51 2 50<|Mo 52 9<|Xi 53 4 51 52<|Oo 54 (.lds [Jj,Jj,Jj,Jj] (Tt 53))<| .lnew 10 [(.int .i64 0),(.int .i64 0),(.int .i64 0),(.int .i64 0)]<| .st (some 10) 4 (Tt 10) (Tt 54)<| .nil)) (.seq (.dops [0,1,2,3,4] [55,56,57,58,59] [] (Oo 55 (.ldsL 10 [Jj,Jj,Jj,Jj] (Tt 10))<|Oo 56 (.ldsL 3 [.c, .c] (Tt 3))<|Mo 57 7<|X2 58 42 Oj 56 57<|X2 59 43 Ob' 55 58<| .nil)) (.cond (Tt 59) (.dops [0,1,2,3,4,5,6,7,8,9,10,11,12,13,14,16,17,18,19,20,21,15,22,23,24,25] [60,61,62,63,64,65,66,67,68,69,70,71,72,73,74,75,76,77,78,79,80,81,82,83,84] [] (Mo 60 6<|Xf 61 0 10<|Xj 62 10 61<|Mo 63 5<|Oo 64 (.ar .mul .i64 (Tt 62) (Tt 63))<|Mo 65 7<|Oo 66 (.ar .add .i64 (Tt 64) (Tt 65))<|Mo 67 6<|Xf 68 0 10<|Xj 69 10 68<|Mo 70 5<|Oo 71 (.ar .mul .i64 (Tt 69) (Tt 70))<|Mo 72 7<|Oo 73 (.ar .add .i64 (Tt 71) (Tt 72))<|Xi 74 1 67 73<|Xf 76 1 10<|Xj 77 10 76<|Mo 78 5<|Oo 79 (.ar .mul .i64 (Tt 77) (Tt 78))<|Mo 80 8<|Oo 81 (.ar .add .i64 (Tt 79) (Tt 80))<|Dd 75 .c 74<|Oo 82 (.lit 1 1 [(.int .i64 0)] [(0,1,(Tt 81))])<|Xa 83 1 75 82<|Xi 84 1 60 66<| .st none 1 (Tt 84) (Tt 83)<| .nil)) (.skip) (some (4,[10,43,44,45,46,47,50,51,52,53,54,55,56,57,58,59,60,61,62,63,64,65,66,67,68,69,70,71,72,73,74,75,76,77,78,79,80,81,82,83,84])))))) (.ops (Mo 48 9<|Xp 49 48 1<|Mo 9 49<| .nil)))))))))) (.ops (Mo 33 7<|Xp 34 33 1<|Mo 7 34<| .nil))))))) (.seq (.ops (X0 11<| .nil)) (.seq (.seq (.ops (Xn 12 0<| .nil)) (.block 4 (.loop 5 [0,1,3,4,7,8,9,10,13,14,15,18,19,20,21,22,23,24,25,26,27,28,29,30,31,32,33,34,35,36,37,38,39,40,41,42,43,44,45,46,47,48,49,50,51,52,53,54,55,56,57,58,59,60,61,62,63,64,65,66,67,68,69,70,71,72,73,74,75,76,77,78,79,80,81,82,83,84,85,86,87,88,89,90,91,92,93,94,95,96,97,98,99,100,101,102,103,104,105,106,107,108,109,110,111,112,113,114,115,116,117,118,119,120,121,122,123,124,125,126,127,128,129] (.seq (.seq (.ops (Mo 85 12<|Xf 86 3 2<|Xc 87 2 86<|Xl 88 87<|Xb 89 85 88<| .nil)) (.cond (Tt 89) (.skip) (.exit 4) none)) (.seq (.block 5 (.seq (.ops (Xf 92 0 2<|Xj 93 2 92<|Mo 94 5<|Oo 95 (.ar .mul .i64 (Tt 93) (Tt 94))<|Oo 96 (.mkS 1 [(.bool false)] (Tt 95))<|Mo 13 96<| .nil)) (.seq (.seq (.ops (Xn 14 0<| .nil)) (.block 6 (.loop 6 [15,85,86,87,88,89,92,93,94,95,96,97,98,99,100,101,102,103,104,105,106,107,108,109,110,111,112,113,114,115,116,117,118,119,120,121,122,123,124,125] (.seq (.seq (.ops (Mo 97 14<|Xf 98 3 2<|Xc 99 2 98<|Mo 100 12<|Xi 101 1 99 100<|Dd 102 .c 101<|Xl 103 102<|Xb 104 97 103<| .nil)) (.cond (Tt 104) (.skip) (.exit 6) none)) (.seq (.block 7 (.seq (.ops (Xn 15 0<| .nil)) (.block 8 (.loop 7 [97,98,99,100,101,102,103,104,107,108,109,110,111,112,113,114,115,116,117,118,119,120,121,122,123,124,125] (.seq (.seq (.ops (Mo 107 15<|Mo 108 5<|Xb 109 107 108<| .nil)) (.cond (Tt 109) (.skip) (.exit 8) none)) (.seq (.block 9 (.ops (Mo 112 13<|Xf 113 3 2<|Xc 114 2 113<|Mo 115 12<|Xi 116 1 114 115<|Dd 117 .c 116<|Mo 118 14<|Xi 119 1 117 118<|Dd 120 Jj 119<|Mo 121 5<|Oo 122 (.ar .mul .i64 (Tt 120) (Tt 121))<|Mo 123 15<|Oo 124 (.ar .add .i64 (Tt 122) (Tt 123))<|Xi 125 1 112 124<| .st none 1 (Tt 125) (.c (.c (.bool true)))<| .nil))) (.ops (Mo 110 15<|Xp 111 110 1<|Mo 15 111<| .nil)))))))) (.ops (Mo 105 14<|Xp 106 105 1<|Mo 14 106<| .nil))))))) (.ops (Mo 126 11<|Mo 127 13<|Oo 128 (.lit 1 1 [.nilSlice] [(0,1,(Tt 127))])<|Xa 129 1 126 128<|Mo 11 129<| .nil))))) (.ops (Mo 90 12<|Xp 91 90 1<|Mo 12 91<| .nil))))))) (.seq (.ops (Mo 130 6<|Mo 131 11<|X2 132 44 Oc' 130 131<|Mo 16 132<| .nil)) (.seq (.seq (.ops (Xn 17 0<| .nil)) (.block 10 (.loop 8 [0,1,3,4,6,7,8,9,10,11,12,13,14,15,18,19,20,21,22,23,24,25,26,27,28,29,30,31,32,33,34,35,36,37,38,39,40,41,42,43,44,45,46,47,48,49,50,51,52,53,54,55,56,57,58,59,60,61,62,63,64,65,66,67,68,69,70,71,72,73,74,75,76,77,78,79,80,81,82,83,84,85,86,87,88,89,90,91,92,93,94,95,96,97,98,99,100,101,102,103,104,105,106,107,108,109,110,111,112,113,114,115,116,117,118,119,120,121,122,123,124,125,126,127,128,129,130,131,132,133,134,135,136,137,138,139,140,141,142,143,144,145,146,147,148,149] (.seq (.seq (.ops (Mo 133 17<|Xf 134 1 2<|Xc 135 2 134<|Xl 136 135<|Xb 137 133 136<| .nil)) (.cond (Tt 137) (.skip) (.exit 10) none)) (.seq (.block 11 (.seq (.ops (Mo 140 16<|Xf 141 1 2<|Xc 142 2 141<|Mo 143 17<|Xi 144 1 142 143<|Dd 145 Jj 144<|Mo 146 5<|Oo 147 (.ar .mul .i64 (Tt 145) (Tt 146))<|Xi 148 1 140 147<|Dd 149 .bool 148<| .nil)) (.cond (Tt 149) (.seq (.ops (Oo 4 (.mov (.c (.c (.bool true))))<| .nil)) (.ret)) (.skip) none))) (.ops (Mo 138 17<|Xp 139 138 1<|Mo 17 139<| .nil))))))) (.seq (.ops (Oo 4 (.mov (.c (.c (.bool false))))<| .nil)) (.ret)))))))))⟩
theorem K1Z:chkFunc pg 16 rf16=true:=by kernel_rfl
def rf17:RFunc:=⟨13,[.t 2], .seq (.ops (.lbox 2 1 (Tt 0)<|Oo 2 (.mov (.c (.c (.bool false))))<| .nil)) (.seq (.ops (Xf 3 0 1<|Xc 4 1 3<|Xl 5 4<|Oo 6 (.cmp .leq .i64 (Tt 5) (Nn 70))<|Mo 7 6<| .logic true 7 (Xf 8 1 1<|Xc 9 1 8<|Xl 10 9<|Oo 11 (.cmp .leq .i64 (Tt 10) (Nn 70))<| .nil) (Tt 11) 12<|Mo 2 12<| .nil)) (.ret))⟩
theorem W1a:chkFunc pg 17 rf17=true:=by kernel_rfl
def rf18:RFunc:=⟨23,[.t 4, .t 5], .seq (.ops (.lbox 4 2 (Tt 0)<| .lbox 2 3 (Tt 1)<|Oo 4 (.mov (.c (.c (.bool false))))<|Xn 5 0<| .nil)) (.seq (.seq (.ops (Oo 9 (.ldsL 2 [Jj, .c, .c, .c] (Tt 2))<|Oo 10 (.ldsL 3 [.c, .c] (Tt 3))<|X2 11 45 Oj 9 10<|Mo 6 11<| .nil)) (.seq (.ops (Mo 12 6<|Oo 13 (Cn' (Tt 12) (Nn 0))<| .nil)) (.cond (Tt 13) (.seq (.ops (Mo 14 6<|Oo 4 (.mov (.c (.c (.bool false))))<|Mo 5 14<| .nil)) (.ret)) (.skip) none))) (.seq (.ops (Oo 16 (.ldsL 2 [Jj, .c, .c, .c] (Tt 2))<|Oo 17 (.ldsL 3 [.c, .c] (Tt 3))<|Oo 18 (.call 46 (.agg [Jj, .c, .c, .c, .c,Jj, .c, .c, .c]) [(Tt 16),(Tt 17)])<|X1 19 47 .any 18<|Mo 15 19<|Oo 20 (.ext (.agg [.c, .c]) (Tt 15) 0)<|Xe 21 Ob' 15 1<| .lnew 7 [.nilSlice, .nilSlice]<| .st (some 7) 2 (Tt 7) (Tt 20)<|Mo 8 21<| .nil)) (.seq (.ops (Mo 22 8<|Mo 4 22<|Xn 5 0<| .nil)) (.ret))))⟩
theorem W1b:chkFunc pg 18 rf18=true:=by kernel_rfl
def rf19:RFunc:=⟨10,[.cells 2 2], .seq (.ops (.lbox 2 1 (Tt 0)<| .lnew 2 [.nilSlice, .nilSlice]<| .nil)) (.seq (.dops [0,1,3,4,2,5,6,7] [3,4,5,6,7,8,9] [] (Xf 3 0 1<|Xc 4 1 3<|Xf 6 1 1<|Xc 7 1 6<|X1 5 38 Oc' 4<|X1 8 38 Oc' 7<|Oo 9 (.build [.nilSlice, .nilSlice] [(0,1,(Tt 5)),(1,1,(Tt 8))])<| .st (some 2) 2 (Tt 2) (Tt 9)<| .nil)) (.ret))⟩
theorem W1c:chkFunc pg 19 rf19=true:=by kernel_rfl
def rf20:RFunc:=⟨27,[.cells 4 2, .t 5], .seq (.ops (.lbox 4 2 (Tt 0)<| .lbox 2 3 (Tt 1)<| .lnew 4 [.nilSlice, .nilSlice]<|Xn 5 0<| .nil)) (.seq (.seq (.ops (Oo 9 (.ldsL 2 [Jj, .c, .c, .c] (Tt 2))<|Oo 10 (.ldsL 3 [.c, .c] (Tt 3))<|X2 11 45 Oj 9 10<|Mo 6 11<| .nil)) (.seq (.ops (Mo 12 6<|Oo 13 (Cn' (Tt 12) (Nn 0))<| .nil)) (.cond (Tt 13) (.seq (.ops (Oo 14 (.build [.nilSlice, .nilSlice] [])<|Mo 15 6<| .st (some 4) 2 (Tt 4) (Tt 14)<|Mo 5 15<| .nil)) (.ret)) (.skip) none))) (.seq (.ops (Oo 17 (.ldsL 2 [Jj, .c, .c, .c] (Tt 2))<|Oo 18 (.ldsL 3 [.c, .c] (Tt 3))<|Oo 19 (.call 46 (.agg [Jj, .c, .c, .c, .c,Jj, .c, .c, .c]) [(Tt 17),(Tt 18)])<|X1 20 47 .any 19<|Mo 16 20<|Oo 21 (.ext (.agg [.c, .c]) (Tt 16) 0)<|Xe 22 Ob' 16 1<| .lnew 7 [.nilSlice, .nilSlice]<| .st (some 7) 2 (Tt 7) (Tt 21)<|Mo 8 22<| .nil)) (.seq (.seq (.ops (Mo 23 8<|Xt 24 23<| .nil)) (.cond (Tt 24) (.seq (.ops (Oo 25 (.build [.nilSlice, .nilSlice] [])<| .st (some 4) 2 (Tt 4) (Tt 25)<|Xn 5 25<| .nil)) (.ret)) (.skip) none)) (.seq (.ops (Oo 26 (.ldsL 7 [.c, .c] (Tt 7))<| .st (some 4) 2 (Tt 4) (Tt 26)<|Xn 5 0<| .nil)) (.ret)))))⟩
theorem W1d:chkFunc pg 20 rf20=true:=by kernel_rfl
def rf21:RFunc:=⟨17,[.t 4], .seq (.ops (.lbox 2 2 (Tt 0)<| .lbox 2 3 (Tt 1)<|Oo 4 (.mov (.c (.c (.bool false))))<| .nil)) (.seq (.ops (Xf 5 0 2<|Xc 6 2 5<|Xf 7 0 3<|Xc 8 3 7<|X2 9 31 Ob' 6 8<|Mo 10 9<| .logic true 10 (Xf 11 1 2<|Xc 12 2 11<|Xf 13 1 3<|Xc 14 3 13<|X2 15 31 Ob' 12 14<| .nil) (Tt 15) 16<|Mo 4 16<| .nil)) (.ret))⟩
theorem W1e:chkFunc pg 21 rf21=true:=by kernel_rfl
def rf22:RFunc:=⟨142,[.t 6, .t 7], .seq (.ops (.lbox 4 3 (Tt 0)<| .lbox 2 4 (Tt 1)<| .lbox 2 5 (Tt 2)<|Xn 6 0<|Xn 7 0<| .nil)) (.seq (.seq (.ops (Oo 16 (.ldsL 3 [Jj, .c, .c, .c] (Tt 3))<|X1 17 12 Oj 16<|Mo 8 17<| .nil)) (.seq (.ops (Mo 18 8<|Oo 19 (Cn' (Tt 18) (Nn 0))<| .nil)) (.cond (Tt 19) (.seq (.ops (Mo 20 8<|Xn 6 0<|Mo 7 20<| .nil)) (.ret)) (.skip) none))) (.seq (.seq (.ops (Oo 21 (.ldsL 4 [.c, .c] (Tt 4))<|X1 22 15 Oj 21<|Mo 9 22<| .nil)) (.seq (.ops (Mo 23 9<|Oo 24 (Cn' (Tt 23) (Nn 0))<| .nil)) (.cond (Tt 24) (.seq (.ops (Mo 25 9<|Xn 6 0<|Mo 7 25<| .nil)) (.ret)) (.skip) none))) (.seq (.seq (.ops (Xf 26 1 5<|Xc 27 5 26<|Xl 28 27<|Oo 29 (Ce (Tt 28) (Nn 0))<| .nil)) (.cond (Tt 29) (.seq (.ops (Xn 6 0<|Xn 7 1<| .nil)) (.ret)) (.skip) none)) (.seq (.ops (Xf 30 0 5<|Xc 31 5 30<|Xl 32 31<|Xf 33 1 5<|Xc 34 5 33<|Xl 35 34<|Oo 36 (.ar .add .i64 (Tt 32) (Tt 35))<|Mo 10 36<| .nil)) (.seq (.seq (.ops (Mo 37 10<|Oo 38 (.cmp .gtr .i64 (Tt 37) (Nn 20000))<| .nil)) (.cond (Tt 38) (.seq (.ops (Xn 6 0<|Xn 7 2<| .nil)) (.ret)) (.skip) none)) (.seq (.seq (.ops (Xf 39 0 5<|Xc 40 5 39<|Xl 41 40<|Xf 42 0 4<|Xc 43 4 42<|Xl 44 43<|Xb 45 41 44<|Mo 46 45<| .logic false 46 (Xf 47 0 5<|Xc 48 5 47<|Xl 49 48<|Xf 50 0 4<|Xc 51 4 50<|Xl 52 51<|Oo 53 (.ar .sub .i64 (Tt 49) (Tt 52))<|Xf 54 1 4<|Xc 55 4 54<|Xl 56 55<|Oo 57 (.dv .rem .i64 (Tt 53) (Tt 56))<|Oo 58 (Cn' (Tt 57) (Nn 0))<| .nil) (Tt 58) 59<|Mo 60 59<| .logic false 60 (Xf 61 1 5<|Xc 62 5 61<|Xl 63 62<|Xf 64 1 4<|Xc 65 4 64<|Xl 66 65<|Oo 67 (.dv .rem .i64 (Tt 63) (Tt 66))<|Oo 68 (Cn' (Tt 67) (Nn 0))<| .nil) (Tt 68) 69<| .nil)) (.cond (Tt 69) (.seq (.ops (Xn 6 0<|Xn 7 6<| .nil)) (.ret)) (.skip) none)) (.seq (.seq (.ops (Xn 11 0<| .nil)) (.block 0 (.loop 1 [0,1,2,6,7,8,9,16,17,18,19,21,22,23,24,26,27,28,29,30,31,32,33,34,35,36,37,38,39,40,41,42,43,44,45,46,47,48,49,50,51,52,53,54,55,56,57,58,59,60,61,62,63,64,65,66,67,68,69,70,71,72,73,74,75,76,77,78,79,80,81,82,83] (.seq (.seq (.ops (Mo 70 11<|Mo 71 10<|Xb 72 70 71<| .nil)) (.cond (Tt 72) (.skip) (.exit 0) none)) (.seq (.block 1 (.seq (.dops [0,1,3,4,5,2,6,7] [75,76,77,78,79,80,81,82] [] (Oo 75 (.ldsL 5 [.c, .c] (Tt 5))<|Mo 76 11<|Xf 78 0 3<|Xj 79 3 78<|Oo 80 (.ar .sub .i64 (Tt 79) (Nn 1))<|X2 77 48 Oj 75 76<|Oo 81 (.call 41 Ob' [(Tt 77),(Nn 0),(Tt 80)])<|Xt 82 81<| .nil)) (.cond (Tt 82) (.seq (.ops (Mo 83 11<|Mo 6 83<|Xn 7 3<| .nil)) (.ret)) (.skip) none))) (.ops (Mo 73 11<|Xp 74 73 1<|Mo 11 74<| .nil))))))) (.seq (.seq (.dops [0,1,2,3,4,5] [84,85,86,87,88,89] [] (Xf 84 1 3<|Xc 85 3 84<|Oo 86 (.ldsL 5 [.c, .c] (Tt 5))<|Oo 87 (.call 48 Oj [(Tt 86),(Nn 0)])<|X2 88 49 Ob' 85 87<|Xt 89 88<| .nil)) (.cond (Tt 89) (.seq (.ops (Xn 6 0<|Xn 7 30<| .nil)) (.ret)) (.skip) none)) (.seq (.seq (.ops (Xn 12 0<| .nil)) (.block 2 (.loop 2 [0,1,2,6,7,8,9,11,16,17,18,19,21,22,23,24,26,27,28,29,30,31,32,33,34,35,36,37,38,39,40,41,42,43,44,45,46,47,48,49,50,51,52,53,54,55,56,57,58,59,60,61,62,63,64,65,66,67,68,69,70,71,72,73,74,75,76,77,78,79,80,81,82,83,84,85,86,87,88,89,90,91,92,93,94,95,96,97,98,99,100,101,102,103,104,105,106,107,108,109,110] (.seq (.seq (.ops (Mo 90 12<|Mo 91 10<|Xb 92 90 91<| .nil)) (.cond (Tt 92) (.skip) (.exit 2) none)) (.seq (.block 3 (.seq (.dops [0,1,2,4,5,6,10,11,3,7,8,9,12,13,14] [95,96,97,98,99,100,101,102,103,104,105,106,107,108,109] [] (Oo 95 (.ldsL 3 [Jj, .c, .c, .c] (Tt 3))<|Oo 96 (.ldsL 5 [.c, .c] (Tt 5))<|Mo 97 12<|Oo 99 (.ldsL 5 [.c, .c] (Tt 5))<|Oo 100 (.ldsL 5 [.c, .c] (Tt 5))<|Mo 101 12<|Oo 105 (.ldsL 4 [.c, .c] (Tt 4))<|Mo 106 12<|X2 98 48 Oj 96 97<|X2 102 51 Oj 100 101<|X2 103 48 Oj 99 102<|Oo 104 (.build [(.int .i64 0),(.int .i64 0),(.int .i64 0),(.int .i64 0)] [(0,1,(Tt 98)),(1,1,(Tt 103))])<|X2 107 42 Oj 105 106<|X3 108 50 Ob' 95 104 107<|Xt 109 108<| .nil)) (.cond (Tt 109) (.seq (.ops (Mo 110 12<|Mo 6 110<|Xn 7 10<| .nil)) (.ret)) (.skip) none))) (.ops (Mo 93 12<|Xp 94 93 1<|Mo 12 94<| .nil))))))) (.seq (.seq (.ops (Xn 13 0<| .nil)) (.block 4 (.loop 3 [0,1,2,4,6,7,8,9,10,11,12,14,15,16,17,18,19,21,22,23,24,26,27,28,29,30,31,32,33,34,35,36,37,38,39,40,41,42,43,44,45,46,47,48,49,50,51,52,53,54,55,56,57,58,59,60,61,62,63,64,65,66,67,68,69,70,71,72,73,74,75,76,77,78,79,80,81,82,83,84,85,86,87,88,89,90,91,92,93,94,95,96,97,98,99,100,101,102,103,104,105,106,107,108,109,110,111,112,113,114,115,116,117,118,119,120,121,122,123,124,125,126,127,128,129,130,131,132,133,134,135,136,137,138,139,140,141] (.seq (.seq (.ops (Mo 111 13<|Xf 112 3 3<|Xc 113 3 112<|Xl 114 113<|Xb 115 111 114<| .nil)) (.cond (Tt 115) (.skip) (.exit 4) none)) (.seq (.block 5 (.seq (.ops (Oo 14 (.mov (.c (.c (.bool false))))<| .nil)) (.seq (.seq (.ops (Xn 15 0<| .nil)) (.block 6 (.loop 4 [111,112,113,114,115,118,119,120,121,122,123,124,125,126,127,128,129,130,131,132,133,134,135,136,137,138] (.seq (.seq (.ops (Mo 118 15<|Xf 119 1 5<|Xc 120 5 119<|Xl 121 120<|Xb 122 118 121<| .nil)) (.cond (Tt 122) (.skip) (.exit 6) none)) (.seq (.block 7 (.dops [0,1,2,3,4,5,7,8,9,10,6,11,12,13,14] [125,126,127,128,129,130,131,132,133,134,135,136,137,138] [14] (Mo 125 14<|Mo 126 125<| .logic false 126 (Xf 127 3 3<|Xc 128 3 127<|Mo 129 13<|Xi 130 1 128 129<|Xf 132 1 5<|Xc 133 5 132<|Mo 134 15<|Xi 135 1 133 134<|Dd 131 .c 130<|Dd 136 Jj 135<|X2 137 49 Ob' 131 136<| .nil) (Tt 137) 138<|Mo 14 138<| .nil))) (.ops (Mo 123 15<|Xp 124 123 1<|Mo 15 124<| .nil))))))) (.seq (.ops (Mo 139 14<|Xt 140 139<| .nil)) (.cond (Tt 140) (.seq (.ops (Mo 141 13<|Mo 6 141<|Xn 7 25<| .nil)) (.ret)) (.skip) none))))) (.ops (Mo 116 13<|Xp 117 116 1<|Mo 13 117<| .nil))))))) (.seq (.ops (Xn 6 0<|Xn 7 0<| .nil)) (.ret))))))))))))⟩
theorem W1f:chkFunc pg 22 rf22=true:=by kernel_rfl
def rf25:RFunc:=⟨106,[.t 2, .t 3], .seq (.ops (.lbox 4 1 (Tt 0)<|Xn 2 0<|Xn 3 0<| .nil)) (.seq (.ops (Xf 14 2 1<|Xc 15 1 14<|Xl 16 15<|Oo 17 (.cmp .gtr .i64 (Tt 16) (Nn 6000))<|Mo 18 17<| .logic false 18 (Xf 19 3 1<|Xc 20 1 19<|Xl 21 20<|Oo 22 (.cmp .gtr .i64 (Tt 21) (Nn 8))<| .nil) (Tt 22) 23<|Mo 4 23<| .nil)) (.seq (.seq (.ops (Xf 24 0 1<|Xj 25 1 24<|Oo 26 (.call 55 Ob' [(Tt 25),(Nn 0),(Nn 300)])<|Xt 27 26<|Oo 28 (.call 53 Oj [(Tt 27),(Nn 3)])<|Mo 29 4<|Oo 30 (.call 53 Oj [(Tt 29),(Nn 2)])<|Oo 31 (.lit 1 2 [(.int .i64 0),(.int .i64 0)] [(0,1,(Tt 28)),(1,1,(Tt 30))])<|X1 32 52 Oj 31<|Mo 5 32<| .nil)) (.seq (.ops (Mo 33 5<|Oo 34 (Cn' (Tt 33) (Nn 0))<| .nil)) (.cond (Tt 34) (.seq (.ops (Mo 35 5<|Xn 2 0<|Mo 3 35<| .nil)) (.ret)) (.skip) none))) (.seq (.seq (.ops (Xf 37 1 1<|Xc 38 1 37<|Xf 39 0 1<|Xj 40 1 39<|X2 41 63 .any 38 40<|Mo 36 41<|Xe 42 Oj 36 0<|Xe 43 Oj 36 1<|Mo 6 42<|Mo 7 43<| .nil)) (.seq (.ops (Mo 44 7<|Oo 45 (Cn' (Tt 44) (Nn 0))<| .nil)) (.cond (Tt 45) (.seq (.ops (Mo 46 6<|Mo 47 7<|Mo 2 46<|Mo 3 47<| .nil)) (.ret)) (.skip) none))) (.seq (.seq (.ops (Xf 48 2 1<|Xc 49 1 48<|Xl 50 49<|Xn 51 0<| .nil)) (.block 0 (.loop 1 [0,2,3,4,5,6,7,8,9,14,15,16,17,18,19,20,21,22,23,24,25,26,27,28,29,30,31,32,33,34,36,37,38,39,40,41,42,43,44,45,48,52,53,54,55,56,57,58,59,60,61,62,63,64,65,66,67,68,69,70,71,72,73,74,75,76,77,78,79,80,81,82,83,84,85] (.seq (.ops (Xb 52 51 50<| .nil)) (.seq (.cond (Tt 52) (.skip) (.exit 0) none) (.seq (.block 1 (.seq (.ops (Mo 53 51<|Xi 54 4 49 51<|Oo 55 (.lds [Jj,Jj,Jj,Jj] (Tt 54))<| .lnew 9 [(.int .i64 0),(.int .i64 0),(.int .i64 0),(.int .i64 0)]<|Mo 8 53<| .st (some 9) 4 (Tt 9) (Tt 55)<| .nil)) (.seq (.ops (Xf 56 0 9<|Xj 57 9 56<|Xf 58 0 1<|Xj 59 1 58<|Oo 60 (.ar .sub .i64 (Tt 59) (Nn 1))<|Oo 61 (.call 55 Ob' [(Tt 57),(Nn 0),(Tt 60)])<|Xt 62 61<|Mo 63 62<| .logic false 63 (Xf 64 1 9<|Xj 65 9 64<|Xf 66 0 1<|Xj 67 1 66<|Oo 68 (.ar .sub .i64 (Tt 67) (Nn 1))<|Oo 69 (.call 55 Ob' [(Tt 65),(Nn 0),(Tt 68)])<|Xt 70 69<| .nil) (Tt 70) 71<|Mo 72 71<| .logic false 72 (Xf 73 2 9<|Xj 74 9 73<|Oo 75 (.call 55 Ob' [(Tt 74),(Nn 0),(Nn 4095)])<|Xt 76 75<| .nil) (Tt 76) 77<|Mo 78 77<| .logic false 78 (Xf 79 3 9<|Xj 80 9 79<|Oo 81 (.call 55 Ob' [(Tt 80),(Nn 0),(Nn 4095)])<|Xt 82 81<| .nil) (Tt 82) 83<| .nil)) (.cond (Tt 83) (.seq (.ops (Mo 84 8<|Mo 2 84<|Xn 3 3<| .nil)) (.ret)) (.skip) none)))) (.ops (Xp 85 51 1<|Mo 51 85<| .nil)))))))) (.seq (.seq (.ops (Xf 86 3 1<|Xc 87 1 86<|Xl 88 87<|Xn 89 0<| .nil)) (.block 2 (.loop 2 [0,2,3,4,5,6,7,8,9,10,11,12,13,14,15,16,17,18,19,20,21,22,23,24,25,26,27,28,29,30,31,32,33,34,36,37,38,39,40,41,42,43,44,45,48,49,50,51,52,53,54,55,56,57,58,59,60,61,62,63,64,65,66,67,68,69,70,71,72,73,74,75,76,77,78,79,80,81,82,83,84,85,86,90,91,92,93,94,95,96,97,98,99,100,101,102,103,104,105] (.seq (.ops (Xb 90 89 88<| .nil)) (.seq (.cond (Tt 90) (.skip) (.exit 2) none) (.seq (.block 3 (.seq (.ops (Mo 91 89<|Xi 92 1 87 89<|Dd 93 .c 92<|Mo 10 91<|Mo 11 93<| .nil)) (.seq (.ops (Mo 95 11<|Xf 96 0 1<|Xj 97 1 96<|X2 98 63 .any 95 97<|Mo 94 98<|Xe 99 Oj 94 0<|Xe 100 Oj 94 1<|Mo 12 99<|Mo 13 100<| .nil)) (.seq (.ops (Mo 101 13<|Oo 102 (Cn' (Tt 101) (Nn 0))<| .nil)) (.cond (Tt 102) (.seq (.ops (Mo 103 10<|Mo 104 13<|Mo 2 103<|Mo 3 104<| .nil)) (.ret)) (.skip) none))))) (.ops (Xp 105 89 1<|Mo 89 105<| .nil)))))))) (.seq (.ops (Xn 2 0<|Xn 3 0<| .nil)) (.ret)))))))⟩
theorem W1g:chkFunc pg 25 rf25=true:=by kernel_rfl
def rf27:RFunc:=⟨111,[.t 2, .t 3], .seq (.ops (.lbox 4 1 (Tt 0)<|Xn 2 0<|Xn 3 0<| .nil)) (.seq (.seq (.ops (Xf 11 0 1<|Xj 12 1 11<|Oo 13 (.call 41 Ob' [(Tt 12),(Nn 0),(Nn 300)])<|Xt 14 13<| .nil)) (.cond (Tt 14) (.seq (.ops (Xn 2 0<|Xn 3 3<| .nil)) (.ret)) (.skip) none)) (.seq (.seq (.ops (Xf 15 2 1<|Xc 16 1 15<|Xl 17 16<|Oo 18 (.cmp .gtr .i64 (Tt 17) (Nn 6000))<|Mo 19 18<| .logic false 19 (Xf 20 3 1<|Xc 21 1 20<|Xl 22 21<|Oo 23 (.cmp .gtr .i64 (Tt 22) (Nn 8))<| .nil) (Tt 23) 24<| .nil)) (.cond (Tt 24) (.seq (.ops (Xn 2 0<|Xn 3 2<| .nil)) (.ret)) (.skip) none)) (.seq (.seq (.ops (Xn 4 0<| .nil)) (.block 0 (.loop 1 [0,2,3,5,11,12,13,14,15,16,17,18,19,20,21,22,23,24,25,26,27,28,29,30,31,32,33,34,35,36,37,38,39,40] (.seq (.seq (.ops (Mo 25 4<|Xf 26 1 1<|Xc 27 1 26<|Xl 28 27<|Xb 29 25 28<| .nil)) (.cond (Tt 29) (.skip) (.exit 0) none)) (.seq (.block 1 (.seq (.ops (Oo 32 (.ldsL 1 [Jj, .c, .c, .c] (Tt 1))<|Xf 33 1 1<|Xc 34 1 33<|Mo 35 4<|X3 36 65 Oj 32 34 35<|Mo 5 36<| .nil)) (.seq (.ops (Mo 37 5<|Oo 38 (Cn' (Tt 37) (Nn 0))<| .nil)) (.cond (Tt 38) (.seq (.ops (Mo 39 4<|Mo 40 5<|Mo 2 39<|Mo 3 40<| .nil)) (.ret)) (.skip) none)))) (.ops (Mo 30 4<|Xp 31 30 1<|Mo 4 31<| .nil))))))) (.seq (.seq (.ops (Xn 6 0<| .nil)) (.block 2 (.loop 2 [0,2,3,4,5,7,11,12,13,14,15,16,17,18,19,20,21,22,23,24,25,26,27,28,29,30,31,32,33,34,35,36,37,38,39,40,41,42,43,44,45,46,47,48,49,50,51,52,53,54,55,56,57,58,59,60,61,62,63,64,65,66,67,68,69,70,71,72,73,74,75,76,77,78,79,80,81] (.seq (.seq (.ops (Mo 41 6<|Xf 42 2 1<|Xc 43 1 42<|Xl 44 43<|Xb 45 41 44<| .nil)) (.cond (Tt 45) (.skip) (.exit 2) none)) (.seq (.block 3 (.seq (.ops (Xf 48 2 1<|Xc 49 1 48<|Mo 50 6<|Xi 51 4 49 50<|Oo 52 (.lds [Jj,Jj,Jj,Jj] (Tt 51))<| .lnew 7 [(.int .i64 0),(.int .i64 0),(.int .i64 0),(.int .i64 0)]<| .st (some 7) 4 (Tt 7) (Tt 52)<| .nil)) (.seq (.ops (Xf 53 0 7<|Xj 54 7 53<|Xf 55 0 1<|Xj 56 1 55<|Oo 57 (.ar .sub .i64 (Tt 56) (Nn 1))<|Oo 58 (.call 41 Ob' [(Tt 54),(Nn 0),(Tt 57)])<|Xt 59 58<|Mo 60 59<| .logic false 60 (Xf 61 1 7<|Xj 62 7 61<|Xf 63 0 1<|Xj 64 1 63<|Oo 65 (.ar .sub .i64 (Tt 64) (Nn 1))<|Oo 66 (.call 41 Ob' [(Tt 62),(Nn 0),(Tt 65)])<|Xt 67 66<| .nil) (Tt 67) 68<|Mo 69 68<| .logic false 69 (Xf 70 2 7<|Xj 71 7 70<|Oo 72 (.call 41 Ob' [(Tt 71),(Nn 0),(Nn 4095)])<|Xt 73 72<| .nil) (Tt 73) 74<|Mo 75 74<| .logic false 75 (Xf 76 3 7<|Xj 77 7 76<|Oo 78 (.call 41 Ob' [(Tt 77),(Nn 0),(Nn 4095)])<|Xt 79 78<| .nil) (Tt 79) 80<| .nil)) (.cond (Tt 80) (.seq (.ops (Mo 81 6<|Mo 2 81<|Xn 3 3<| .nil)) (.ret)) (.skip) none)))) (.ops (Mo 46 6<|Xp 47 46 1<|Mo 6 47<| .nil))))))) (.seq (.seq (.ops (Xn 8 0<| .nil)) (.block 4 (.loop 3 [0,2,3,4,5,6,7,9,10,11,12,13,14,15,16,17,18,19,20,21,22,23,24,25,26,27,28,29,30,31,32,33,34,35,36,37,38,39,40,41,42,43,44,45,46,47,48,49,50,51,52,53,54,55,56,57,58,59,60,61,62,63,64,65,66,67,68,69,70,71,72,73,74,75,76,77,78,79,80,81,82,83,84,85,86,87,88,89,90,91,92,93,94,95,96,97,98,99,100,101,102,103,104,105,106,107,108,109,110] (.seq (.seq (.ops (Mo 82 8<|Xf 83 3 1<|Xc 84 1 83<|Xl 85 84<|Xb 86 82 85<| .nil)) (.cond (Tt 86) (.skip) (.exit 4) none)) (.seq (.block 5 (.seq (.ops (Xn 9 0<| .nil)) (.block 6 (.loop 4 [2,3,10,82,83,84,85,86,89,90,91,92,93,94,95,96,97,98,99,100,101,102,103,104,105,106,107,108,109,110] (.seq (.seq (.ops (Mo 89 9<|Xf 90 3 1<|Xc 91 1 90<|Mo 92 8<|Xi 93 1 91 92<|Dd 94 .c 93<|Xl 95 94<|Xb 96 89 95<| .nil)) (.cond (Tt 96) (.skip) (.exit 6) none)) (.seq (.block 7 (.seq (.dops [0,1,2,3,4,6,5,7,8] [10,99,100,101,102,103,104,105,106] [] (Oo 99 (.ldsL 1 [Jj, .c, .c, .c] (Tt 1))<|Xf 100 3 1<|Xc 101 1 100<|Mo 102 8<|Xi 103 1 101 102<|Mo 105 9<|Dd 104 .c 103<|X3 106 65 Oj 99 104 105<|Mo 10 106<| .nil)) (.seq (.ops (Mo 107 10<|Oo 108 (Cn' (Tt 107) (Nn 0))<| .nil)) (.cond (Tt 108) (.seq (.ops (Mo 109 8<|Mo 110 10<|Mo 2 109<|Mo 3 110<| .nil)) (.ret)) (.skip) none)))) (.ops (Mo 97 9<|Xp 98 97 1<|Mo 9 98<| .nil)))))))) (.ops (Mo 87 8<|Xp 88 87 1<|Mo 8 88<| .nil))))))) (.seq (.ops (Xn 2 0<|Xn 3 0<| .nil)) (.ret)))))))⟩
theorem W1h:chkFunc pg 27 rf27=true:=by kernel_rfl
def rf31:RFunc:=⟨26,[.t 4], .seq (.ops (Oo 4 (.mov (.c (.c (.bool false))))<| .nil)) (.seq (.seq (.ops (Mo 6 0<|Xl 7 6<|Mo 8 1<|Xl 9 8<|Oo 10 (Cn' (Tt 7) (Tt 9))<| .nil)) (.cond (Tt 10) (.seq (.ops (Oo 4 (.mov (.c (.c (.bool false))))<| .nil)) (.ret)) (.skip) none)) (.seq (.seq (.ops (Xn 5 0<| .nil)) (.block 0 (.loop 1 [4,6,7,8,9,10,11,12,13,14,15,16,17,18,19,20,21,22,23,24,25] (.seq (.seq (.ops (Mo 11 5<|Mo 12 0<|Xl 13 12<|Xb 14 11 13<| .nil)) (.cond (Tt 14) (.skip) (.exit 0) none)) (.seq (.block 1 (.seq (.dops [0,1,2,4,5,6,3,7,8] [17,18,19,20,21,22,23,24,25] [] (Mo 17 0<|Mo 18 5<|Xi 19 1 17 18<|Mo 21 1<|Mo 22 5<|Xi 23 1 21 22<|Dd 20 Jj 19<|Dd 24 Jj 23<|Oo 25 (Cn' (Tt 20) (Tt 24))<| .nil)) (.cond (Tt 25) (.seq (.ops (Oo 4 (.mov (.c (.c (.bool false))))<| .nil)) (.ret)) (.skip) none))) (.ops (Mo 15 5<|Xp 16 15 1<|Mo 5 16<| .nil))))))) (.seq (.ops (Oo 4 (.mov (.c (.c (.bool true))))<| .nil)) (.ret))))⟩
theorem W1i:chkFunc pg 31 rf31=true:=by kernel_rfl
def rf35:RFunc:=⟨9,[.cells 0 4], .seq (.ops (.lnew 0 [(.int .i64 0), .nilSlice, .nilSlice, .nilSlice]<| .nil)) (.seq (.ops (Oo 1 (.lit 1 1 [(.int .i64 0)] [(0,1,(Nn 0))])<|Oo 2 (.build [(.int .i64 0),(.int .i64 0),(.int .i64 0),(.int .i64 0)] [(0,1,(Nn 0)),(1,1,(Nn 0))])<|Oo 3 (.build [(.int .i64 0),(.int .i64 0),(.int .i64 0),(.int .i64 0)] [(0,1,(Nn 0)),(1,1,(Nn 1)),(2,1,(Nn 1))])<|Oo 4 (.build [(.int .i64 0),(.int .i64 0),(.int .i64 0),(.int .i64 0)] [(0,1,(Nn 1)),(1,1,(Nn 1)),(2,1,(Nn 1))])<|Oo 5 (.lit 4 3 [(.int .i64 0),(.int .i64 0),(.int .i64 0),(.int .i64 0),(.int .i64 0),(.int .i64 0),(.int .i64 0),(.int .i64 0),(.int .i64 0),(.int .i64 0),(.int .i64 0),(.int .i64 0)] [(0,4,(Tt 2)),(4,4,(Tt 3)),(8,4,(Tt 4))])<|Oo 6 (.lit 1 1 [(.int .i64 0)] [(0,1,(Nn 1))])<|Oo 7 (.lit 1 1 [.nilSlice] [(0,1,(Tt 6))])<|Oo 8 (.build [(.int .i64 0), .nilSlice, .nilSlice, .nilSlice] [(0,1,(Nn 2)),(1,1,(Tt 1)),(2,1,(Tt 5)),(3,1,(Tt 7))])<| .st (some 0) 4 (Tt 0) (Tt 8)<| .nil)) (.ret))⟩
theorem W1j:chkFunc pg 35 rf35=true:=by kernel_rfl
def rf36:RFunc:=⟨11,[.t 2], .seq (.ops (.lbox 4 1 (Tt 0)<|Xn 2 0<| .nil)) (.seq (.ops (Oo 6 (.ldsL 1 [Jj, .c, .c, .c] (Tt 1))<|X1 7 25 .any 6<|Mo 5 7<|Xe 8 Oj 5 0<|Xe 9 Oj 5 1<|Mo 3 8<|Mo 4 9<| .nil)) (.seq (.ops (Mo 10 4<|Mo 2 10<| .nil)) (.ret)))⟩
theorem W1k:chkFunc pg 36 rf36=true:=by kernel_rfl
def rf37:RFunc:=⟨87,[.cells 2 2, .t 3], .seq (.ops (.lbox 4 1 (Tt 0)<| .lnew 2 [.nilSlice, .nilSlice]<|Xn 3 0<| .nil)) (.seq (.ops (Oo 17 (.ldsL 1 [Jj, .c, .c, .c] (Tt 1))<|X1 18 72 .any 17<|Mo 16 18<|Xe 19 Oc' 16 0<|Xe 20 Oc' 16 1<|Oo 5 (.new [.nilSlice])<|Mo 4 19<| .st none 1 (Tt 5) (Tt 20)<| .nil)) (.seq (.ops (Mo 22 4<|Xf 23 1 1<|Xc 24 1 23<|Dd 25 .c 5<|Oo 26 (.mkF 74 [(Tt 5)])<|X4 27 73 .any 22 24 25 26<|Mo 21 27<|Xe 28 Oc' 21 0<|Xe 29 Oc' 21 1<|Xe 30 Ob' 21 2<|Mo 6 28<|Mo 7 29<|Mo 8 30<| .nil)) (.seq (.seq (.ops (Mo 31 8<|Xt 32 31<| .nil)) (.cond (Tt 32) (.seq (.ops (Oo 33 (.build [.nilSlice, .nilSlice] [])<| .st (some 2) 2 (Tt 2) (Tt 33)<|Xn 3 25<| .nil)) (.ret)) (.skip) none)) (.seq (.ops (Mo 34 6<|Mo 35 7<|Oo 36 (.lit 1 2 [.nilSlice, .nilSlice] [(0,1,(Tt 34)),(1,1,(Tt 35))])<|X1 37 54 Oc' 36<|Mo 9 37<| .nil)) (.seq (.ops (X0 10<| .nil)) (.seq (.seq (.ops (Mo 38 9<|Xl 39 38<|Xn 40 0<| .nil)) (.block 0 (.loop 1 [0,3,4,5,8,11,12,13,14,16,17,18,19,20,21,22,23,24,25,26,27,28,29,30,31,32,34,35,36,37,41,42,43,44,45,46,47,48,49,50,51,52,53,54,55,56,57,58,59,60,61,62,63,64,65,66,67,68,69,70,71] (.seq (.ops (Xb 41 40 39<| .nil)) (.seq (.cond (Tt 41) (.skip) (.exit 0) none) (.seq (.block 1 (.seq (.ops (Mo 42 40<|Xi 43 1 38 40<|Dd 44 Jj 43<|Oo 12 (.new [(.int .i64 0)])<|Mo 11 42<| .st none 1 (Tt 12) (Tt 44)<| .nil)) (.seq (.ops (Mo 45 7<|Oo 46 (.idx 1 (Tt 45) (Nn 0))<|Dd 47 Jj 46<|Oo 13 (.new [(.int .i64 0)])<| .st none 1 (Tt 13) (Tt 47)<| .nil)) (.seq (.seq (.ops (Mo 48 11<|Mo 49 9<|Xl 50 49<|Oo 51 (.ar .sub .i64 (Tt 50) (Nn 1))<|Xb 52 48 51<| .nil)) (.cond (Tt 52) (.ops (Mo 53 9<|Mo 54 11<|Xp 55 54 1<|Xi 56 1 53 55<|Dd 57 Jj 56<| .st none 1 (Tt 13) (Tt 57)<| .nil)) (.skip) (some (2,[11,41,42,43,44,45,46,47,48,49,50,51,52,53,54,55,56,57])))) (.seq (.ops (Xf 58 2 1<|Xc 59 1 58<|Oo 60 (.mkF 76 [(Tt 12),(Tt 13)])<|X2 61 75 Oj 59 60<|Mo 14 61<| .nil)) (.ops (Mo 62 10<|Xf 63 2 1<|Xc 64 1 63<|Mo 65 14<|Xi 66 4 64 65<|Xf 67 2 66<|Dd 68 Jj 67<|Oo 69 (.lit 1 1 [(.int .i64 0)] [(0,1,(Tt 68))])<|Xa 70 1 62 69<|Mo 10 70<| .nil))))))) (.ops (Xp 71 40 1<|Mo 40 71<| .nil)))))))) (.seq (.dops [0,1,2,3,4,5,6,7,8,9,10,11,12] [15,72,73,74,75,76,77,78,79,80,81,82] [] (Mo 72 10<|Mo 73 6<|Xl 74 73<|Mo 75 6<|Xl 76 75<|Oo 77 (.subM 1 (Tt 72) none (some (Tt 74)) (some (Tt 76)))<|Mo 78 10<|Mo 79 6<|Xl 80 79<|Oo 81 (.sub 1 (Tt 78) (some (Tt 80)) none)<|Oo 82 (.build [.nilSlice, .nilSlice] [(0,1,(Tt 77)),(1,1,(Tt 81))])<| .lnew 15 [.nilSlice, .nilSlice]<| .st (some 15) 2 (Tt 15) (Tt 82)<| .nil)) (.seq (.ops (Oo 83 (.ldsL 15 [.c, .c] (Tt 15))<|X1 84 77 .any 83<|Oo 85 (.ext (.agg [.c, .c]) (Tt 84) 0)<|Xe 86 Oj 84 1<| .st (some 2) 2 (Tt 2) (Tt 85)<|Mo 3 86<| .nil)) (.ret)))))))))⟩
theorem W1l:chkFunc pg 37 rf37=true:=by kernel_rfl
def rf38:RFunc:=⟨6,[.t 2], .seq (.ops (X0 2<| .nil)) (.seq (.ops (Oo 3 (.lit 1 0 [] [])<|Mo 4 0<|Xa 5 1 3 4<|Mo 2 5<| .nil)) (.ret))⟩
theorem W1m:chkFunc pg 38 rf38=true:=by kernel_rfl
def rf39:RFunc:=⟨20,[.t 2], .seq (.ops (X0 2<| .nil)) (.seq (.ops (X0 3<| .nil)) (.seq (.seq (.ops (Xn 4 0<| .nil)) (.block 0 (.loop 1 [2,5,6,7,8,9,10,11,12,13,14,15,16,17,18] (.seq (.seq (.ops (Mo 5 4<|Mo 6 0<|Xl 7 6<|Xb 8 5 7<| .nil)) (.cond (Tt 8) (.skip) (.exit 0) none)) (.seq (.block 1 (.ops (Mo 11 3<|Mo 12 0<|Mo 13 4<|Xi 14 1 12 13<|Dd 15 .c 14<|X1 16 38 Oc' 15<|Oo 17 (.lit 1 1 [.nilSlice] [(0,1,(Tt 16))])<|Xa 18 1 11 17<|Mo 3 18<| .nil))) (.ops (Mo 9 4<|Xp 10 9 1<|Mo 4 10<| .nil))))))) (.seq (.ops (Mo 19 3<|Mo 2 19<| .nil)) (.ret))))⟩
theorem W1n:chkFunc pg 39 rf39=true:=by kernel_rfl
def rf41:RFunc:=⟨15,[.t 6], .seq (.ops (Oo 6 (.mov (.c (.c (.bool false))))<| .nil)) (.seq (.ops (Mo 7 0<|Mo 8 1<|Oo 9 (.cmp .geq .i64 (Tt 7) (Tt 8))<|Mo 10 9<| .logic true 10 (Mo 11 0<|Mo 12 2<|Oo 13 (.cmp .leq .i64 (Tt 11) (Tt 12))<| .nil) (Tt 13) 14<|Mo 6 14<| .nil)) (.ret))⟩
theorem W1o:chkFunc pg 41 rf41=true:=by kernel_rfl
def rf42:RFunc:=⟨28,[.t 4], .seq (.ops (.lbox 2 2 (Tt 0)<|Xn 4 0<| .nil)) (.seq (.seq (.ops (Mo 5 1<|Xf 6 0 2<|Xc 7 2 6<|Xl 8 7<|Xb 9 5 8<| .nil)) (.cond (Tt 9) (.seq (.ops (Xf 10 0 2<|Xc 11 2 10<|Mo 12 1<|Xi 13 1 11 12<|Dd 14 Jj 13<|Mo 4 14<| .nil)) (.ret)) (.skip) none)) (.seq (.dops [0,1,2,3,4,5,6,7,8,9,10,11,12,13] [4,15,16,17,18,19,20,21,22,23,24,25,26,27] [] (Xf 15 1 2<|Xc 16 2 15<|Mo 17 1<|Xf 18 0 2<|Xc 19 2 18<|Xl 20 19<|Oo 21 (.ar .sub .i64 (Tt 17) (Tt 20))<|Xf 22 1 2<|Xc 23 2 22<|Xl 24 23<|Oo 25 (.dv .rem .i64 (Tt 21) (Tt 24))<|Xi 26 1 16 25<|Dd 27 Jj 26<|Mo 4 27<| .nil)) (.ret)))⟩
theorem W1p:chkFunc pg 42 rf42=true:=by kernel_rfl
def rf43:RFunc:=⟨31,[.t 4], .seq (.ops (.lbox 4 2 (Tt 0)<|Oo 4 (.mov (.c (.c (.bool false))))<| .nil)) (.seq (.seq (.ops (Xn 5 0<| .nil)) (.block 0 (.loop 1 [0,4,6,7,8,9,10,11,12,13,14,15,16,17,18,19,20,21,22,23,24,25,26,27,28,29,30] (.seq (.seq (.ops (Mo 6 5<|Oo 7 (Cl (Tt 6) (Nn 12))<| .nil)) (.cond (Tt 7) (.skip) (.exit 0) none)) (.seq (.block 1 (.seq (.ops (Xf 10 2 2<|Xj 11 2 10<|Mo 12 5<|X2 13 81 Ob' 11 12<|Mo 14 13<| .logic true 14 (Mo 15 1<|Mo 16 5<|X2 17 81 Ob' 15 16<|Xt 18 17<| .nil) (Tt 18) 19<|Mo 20 19<| .logic false 20 (Xf 21 3 2<|Xj 22 2 21<|Mo 23 5<|X2 24 81 Ob' 22 23<|Mo 25 24<| .logic true 25 (Mo 26 1<|Mo 27 5<|X2 28 81 Ob' 26 27<| .nil) (Tt 28) 29<| .nil) (Tt 29) 30<| .nil)) (.cond (Tt 30) (.seq (.ops (Oo 4 (.mov (.c (.c (.bool false))))<| .nil)) (.ret)) (.skip) none))) (.ops (Mo 8 5<|Xp 9 8 1<|Mo 5 9<| .nil))))))) (.seq (.ops (Oo 4 (.mov (.c (.c (.bool true))))<| .nil)) (.ret)))⟩
theorem W1q:chkFunc pg 43 rf43=true:=by kernel_rfl
def rf44:RFunc:=⟨70,[.t 4], .seq (.ops (X0 4<| .nil)) (.seq (.ops (Mo 13 0<|Xl 14 13<|Oo 15 (.mkS 1 [(.bool false)] (Tt 14))<|Mo 5 15<| .nil)) (.seq (.seq (.ops (Xn 6 0<| .nil)) (.block 0 (.loop 1 [4,13,14,15,16,17,18,19,20,21,22,23,24] (.seq (.seq (.ops (Mo 16 6<|Mo 17 5<|Xl 18 17<|Xb 19 16 18<| .nil)) (.cond (Tt 19) (.skip) (.exit 0) none)) (.seq (.block 1 (.ops (Mo 22 5<|Mo 23 6<|Xi 24 1 22 23<| .st none 1 (Tt 24) (.c (.c (.bool true)))<| .nil))) (.ops (Mo 20 6<|Xp 21 20 1<|Mo 6 21<| .nil))))))) (.seq (.ops (Mo 25 0<|X1 26 82 Oc' 25<|Mo 7 26<| .nil)) (.seq (.ops (Mo 27 1<|Mo 8 27<| .nil)) (.seq (.seq (.ops (Mo 28 8<|Xl 29 28<|Oo 30 (Ce (Tt 29) (Nn 0))<| .nil)) (.cond (Tt 30) (.ops (Oo 31 (.lit 1 0 [] [])<|Mo 32 5<|Xa 33 1 31 32<|Oo 34 (.lit 1 1 [.nilSlice] [(0,1,(Tt 33))])<|Mo 8 34<| .nil)) (.skip) (some (2,[0,1,4,6,13,14,15,16,17,18,19,20,21,22,23,24,25,26,27,28,29,30,31,32,33,34])))) (.seq (.seq (.ops (Oo 9 (.mov (.c (.c (.bool true))))<| .nil)) (.block 2 (.loop 3 [10,11,12,35,36,37,38,39,40,41,42,43,44,45,46,47,48,49,50,51,52,53,54,55,56,57,58,59,60,61,62,63,64,65,66,67,68] (.seq (.seq (.ops (Mo 35 9<| .nil)) (.cond (Tt 35) (.skip) (.exit 2) none)) (.block 3 (.seq (.ops (Oo 9 (.mov (.c (.c (.bool false))))<| .nil)) (.seq (.ops (Xn 10 0<| .nil)) (.block 4 (.loop 4 [11,12,35,36,37,38,39,40,41,42,43,44,45,46,47,48,49,50,51,52,53,54,55,56,57,58,59,60,61,62,63,64,65,66,67,68] (.seq (.seq (.ops (Mo 36 10<|Mo 37 8<|Xl 38 37<|Xb 39 36 38<| .nil)) (.cond (Tt 39) (.skip) (.exit 4) none)) (.seq (.block 5 (.seq (.ops (Mo 42 7<|Mo 43 5<|Mo 44 8<|Mo 45 10<|Xi 46 1 44 45<|Dd 47 .c 46<|X3 48 83 Oc' 42 43 47<|Mo 11 48<| .nil)) (.seq (.ops (Xn 12 0<| .nil)) (.block 6 (.loop 5 [36,37,38,39,42,43,44,45,46,47,48,49,50,51,52,53,54,55,56,57,58,59,60,61,62,63,64,65,66,67,68] (.seq (.seq (.ops (Mo 49 12<|Mo 50 5<|Xl 51 50<|Xb 52 49 51<| .nil)) (.cond (Tt 52) (.skip) (.exit 6) none)) (.seq (.block 7 (.seq (.ops (Mo 55 5<|Mo 56 12<|Xi 57 1 55 56<|Dd 58 .bool 57<|Mo 59 58<| .logic true 59 (Mo 60 11<|Mo 61 12<|Xi 62 1 60 61<|Dd 63 .bool 62<|Xt 64 63<| .nil) (Tt 64) 65<| .nil)) (.cond (Tt 65) (.ops (Mo 66 5<|Mo 67 12<|Xi 68 1 66 67<| .st none 1 (Tt 68) (.c (.c (.bool false)))<|Oo 9 (.mov (.c (.c (.bool true))))<| .nil)) (.skip) (some (6,[49,50,51,52,55,56,57,58,59,60,61,62,63,64,65,66,67,68]))))) (.ops (Mo 53 12<|Xp 54 53 1<|Mo 12 54<| .nil))))))))) (.ops (Mo 40 10<|Xp 41 40 1<|Mo 10 41<| .nil))))))))))))) (.seq (.ops (Mo 69 5<|Mo 4 69<| .nil)) (.ret))))))))⟩
theorem W1r:chkFunc pg 44 rf44=true:=by kernel_rfl
def rf45:RFunc:=⟨11,[.t 4], .seq (.ops (.lbox 4 2 (Tt 0)<| .lbox 2 3 (Tt 1)<|Xn 4 0<| .nil)) (.seq (.dops [0,2,1,3,4,5,6] [4,5,6,7,8,9,10] [] (Oo 5 (.ldsL 2 [Jj, .c, .c, .c] (Tt 2))<|Oo 7 (.ldsL 3 [.c, .c] (Tt 3))<|X1 6 36 Oj 5<|X1 8 84 Oj 7<|Oo 9 (.lit 1 2 [(.int .i64 0),(.int .i64 0)] [(0,1,(Tt 6)),(1,1,(Tt 8))])<|X1 10 52 Oj 9<|Mo 4 10<| .nil)) (.ret))⟩
theorem W1s:chkFunc pg 45 rf45=true:=by kernel_rfl
def rf46:RFunc:=⟨109,[.cells 4 9], .seq (.ops (Oo 2 (.box 4 (Tt 0))<| .lbox 2 3 (Tt 1)<| .lnew 4 [(.int .i64 0), .nilSlice, .nilSlice, .nilSlice, .nilSlice,(.int .i64 0), .nilSlice, .nilSlice, .nilSlice]<| .nil)) (.seq (.dops [1,2,3,4,7,8,9,10,13,0,11,5,6,12,14] [5,14,15,16,17,18,19,20,21,22,23,24,25,26] [] (Xf 15 0 3<|Xc 16 3 15<|Xf 17 1 3<|Xc 18 3 17<|Xf 21 0 3<|Xc 22 3 21<|Xl 23 22<|Xf 24 1 2<| .lnew 5 [(.int .i64 0), .nilSlice, .nilSlice, .nilSlice, .nilSlice,(.int .i64 0), .nilSlice, .nilSlice, .nilSlice]<|Oo 14 (.lds [Jj, .c, .c, .c] (Tt 2))<|Dd 25 .c 24<|Oo 19 (.lit 1 2 [.nilSlice, .nilSlice] [(0,1,(Tt 16)),(1,1,(Tt 18))])<|Oo 20 (.chkd (.chkd (.call 54 Oc' [(Tt 19)]) 14 2 true [Jj, .c, .c, .c]) 25 24 false [.c])<|Oo 26 (.build [(.int .i64 0), .nilSlice, .nilSlice, .nilSlice, .nilSlice,(.int .i64 0), .nilSlice, .nilSlice, .nilSlice] [(0,4,(Tt 14)),(4,1,(Tt 20)),(5,1,(Tt 23)),(7,1,(Tt 25))])<| .st (some 5) 9 (Tt 5) (Tt 26)<| .nil)) (.seq (.ops (Xf 27 4 5<|Xc 28 5 27<|Xl 29 28<|Xf 30 0 2<|Dd 31 Jj 30<|Oo 32 (.ar .mul .i64 (Tt 29) (Tt 31))<|Oo 33 (.mkS 1 [.nilSlice] (Tt 32))<|Xf 34 6 5<| .st (some 5) 1 (Tt 34) (Tt 33)<| .nil)) (.seq (.seq (.ops (Xf 35 4 5<|Xc 36 5 35<|Xl 37 36<|Xn 38 0<| .nil)) (.block 0 (.loop 1 [0,1,3,6,7,8,10,11,14,15,16,17,18,19,20,21,22,23,24,25,26,27,28,29,30,31,32,33,34,35,39,40,41,42,43,44,45,46,47,48,49,50,51,52,53,54,55,56,57,58,59,60,61,62,63,64,65,66,67,68,69,70,71,72,73,74,75,76,77,78,79,80,81,82,83,84,85,86,87,88] (.seq (.ops (Xb 39 38 37<| .nil)) (.seq (.cond (Tt 39) (.skip) (.exit 0) none) (.seq (.block 1 (.seq (.ops (Mo 40 38<|Xi 41 1 36 38<|Dd 42 Jj 41<|Mo 6 40<|Mo 7 42<| .nil)) (.seq (.ops (Mo 43 6<|Xp 44 43 1<|Mo 8 44<| .nil)) (.seq (.seq (.ops (Mo 45 8<|Xf 46 4 5<|Xc 47 5 46<|Xl 48 47<|Oo 49 (Ce (Tt 45) (Tt 48))<| .nil)) (.cond (Tt 49) (.ops (Xf 50 5 5<|Xj 51 5 50<|Mo 8 51<| .nil)) (.skip) (some (2,[39,40,41,42,43,44,45,46,47,48,49,50,51])))) (.seq (.ops (Xf 52 2 2<|Dd 53 .c 52<|Xl 54 53<|Xn 55 0<| .nil)) (.block 2 (.loop 3 [10,11,52,56,57,58,59,60,61,62,63,64,65,66,67,68,69,70,71,72,73,74,75,76,77,78,79,80,81,82,83,84,85,86,87] (.seq (.ops (Xb 56 55 54<| .nil)) (.seq (.cond (Tt 56) (.skip) (.exit 2) none) (.seq (.block 3 (.seq (.ops (Xi 57 4 53 55<|Oo 58 (.lds [Jj,Jj,Jj,Jj] (Tt 57))<| .lnew 10 [(.int .i64 0),(.int .i64 0),(.int .i64 0),(.int .i64 0)]<| .st (some 10) 4 (Tt 10) (Tt 58)<| .nil)) (.seq (.ops (Oo 59 (.ldsL 10 [Jj,Jj,Jj,Jj] (Tt 10))<|Mo 60 7<|X2 61 60 Ob' 59 60<| .nil)) (.cond (Tt 61) (.seq (.ops (Mo 62 6<|Xf 63 0 2<|Dd 64 Jj 63<|Oo 65 (.ar .mul .i64 (Tt 62) (Tt 64))<|Xf 66 0 10<|Xj 67 10 66<|Oo 68 (.ar .add .i64 (Tt 65) (Tt 67))<|Mo 11 68<| .nil)) (.dops [0,1,2,3,4,5,6,8,9,12,13,7,10,11,14,15,16,17,18] [69,70,71,72,73,74,75,76,77,78,79,80,81,82,83,84,85,86] [] (Xf 69 6 5<|Xc 70 5 69<|Mo 71 11<|Xf 72 6 5<|Xc 73 5 72<|Mo 74 11<|Xi 75 1 73 74<|Mo 77 8<|Xf 78 0 2<|Xf 81 1 10<|Xj 82 10 81<|Dd 76 .c 75<|Dd 79 Jj 78<|Oo 80 (.ar .mul .i64 (Tt 77) (Tt 79))<|Oo 83 (.ar .add .i64 (Tt 80) (Tt 82))<|Oo 84 (.lit 1 1 [(.int .i64 0)] [(0,1,(Tt 83))])<|Xa 85 1 76 84<|Xi 86 1 70 71<| .st none 1 (Tt 86) (Tt 85)<| .nil))) (.skip) (some (4,[10,11,56,57,58,59,60,61,62,63,64,65,66,67,68,69,70,71,72,73,74,75,76,77,78,79,80,81,82,83,84,85,86])))))) (.ops (Xp 87 55 1<|Mo 55 87<| .nil)))))))))))) (.ops (Xp 88 38 1<|Mo 38 88<| .nil)))))))) (.seq (.seq (.ops (Xf 89 3 2<|Dd 90 .c 89<|Xl 91 90<|Xn 92 0<| .nil)) (.block 4 (.loop 5 [0,1,3,6,7,8,10,11,13,14,15,16,17,18,19,20,21,22,23,24,25,26,27,28,29,30,31,32,33,34,35,36,37,38,39,40,41,42,43,44,45,46,47,48,49,50,51,52,53,54,55,56,57,58,59,60,61,62,63,64,65,66,67,68,69,70,71,72,73,74,75,76,77,78,79,80,81,82,83,84,85,86,87,88,89,93,94,95,96,97,98,99,100,101,102,103,104,105,106,107] (.seq (.ops (Xb 93 92 91<| .nil)) (.seq (.cond (Tt 93) (.skip) (.exit 4) none) (.seq (.block 5 (.seq (.ops (Xi 94 1 90 92<|Dd 95 .c 94<|Mo 13 95<| .nil)) (.dops [0,1,2,3,4,5,6,7,8,9,10,11] [96,97,98,99,100,101,102,103,104,105,106] [] (Xf 96 8 5<|Xc 97 5 96<|Mo 98 13<|Xf 99 6 5<|Xc 100 5 99<|Xl 101 100<|Oo 102 (.mkF 86 [(Tt 2)])<|X3 103 85 Oc' 98 101 102<|Oo 104 (.lit 1 1 [.nilSlice] [(0,1,(Tt 103))])<|Xa 105 1 97 104<|Xf 106 8 5<| .st (some 5) 1 (Tt 106) (Tt 105)<| .nil)))) (.ops (Xp 107 92 1<|Mo 92 107<| .nil)))))))) (.seq (.ops (Oo 108 (.ldsL 5 [Jj, .c, .c, .c, .c,Jj, .c, .c, .c] (Tt 5))<| .st (some 4) 9 (Tt 4) (Tt 108)<| .nil)) (.ret))))))⟩
theorem W1t:chkFunc pg 46 rf46=true:=by kernel_rfl
def rf47:RFunc:=⟨31,[.cells 2 2, .t 3], .seq (.ops (Oo 1 (.box 9 (Tt 0))<| .lnew 2 [.nilSlice, .nilSlice]<|Oo 3 (.mov (.c (.c (.bool false))))<| .nil)) (.seq (.ops (Oo 9 (.mkF 87 [(Tt 1)])<|Mo 4 9<| .nil)) (.seq (.ops (Xf 11 6 1<|Dd 12 .c 11<|Xf 13 7 1<|Dd 14 .c 13<|Xf 15 8 1<|Dd 16 .c 15<|Mo 17 4<|X4 18 73 .any 12 14 16 17<|Mo 10 18<|Xe 19 Oc' 10 0<|Xe 20 Oc' 10 1<|Xe 21 Ob' 10 2<|Mo 5 19<|Mo 6 20<|Mo 7 21<| .nil)) (.seq (.ops (Oo 22 (.mkF 88 [(Tt 1)])<|Mo 8 22<| .nil)) (.seq (.ops (Mo 23 8<|Mo 24 5<|Oo 25 (.callV (Tt 23) Oc' [(Tt 24)])<|Mo 26 8<|Mo 27 6<|Oo 28 (.callV (Tt 26) Oc' [(Tt 27)])<|Oo 29 (.build [.nilSlice, .nilSlice] [(0,1,(Tt 25)),(1,1,(Tt 28))])<|Mo 30 7<| .st (some 2) 2 (Tt 2) (Tt 29)<|Mo 3 30<| .nil)) (.ret)))))⟩
theorem W1u:chkFunc pg 47 rf47=true:=by kernel_rfl
def rf48:RFunc:=⟨24,[.t 4], .seq (.ops (.lbox 2 2 (Tt 0)<|Xn 4 0<| .nil)) (.seq (.seq (.ops (Mo 5 1<|Xf 6 0 2<|Xc 7 2 6<|Xl 8 7<|Xb 9 5 8<| .nil)) (.cond (Tt 9) (.seq (.ops (Xf 10 0 2<|Xc 11 2 10<|Mo 12 1<|Xi 13 1 11 12<|Dd 14 Jj 13<|Mo 4 14<| .nil)) (.ret)) (.skip) none)) (.seq (.ops (Xf 15 1 2<|Xc 16 2 15<|Mo 17 1<|Xf 18 0 2<|Xc 19 2 18<|Xl 20 19<|Oo 21 (.ar .sub .i64 (Tt 17) (Tt 20))<|Xi 22 1 16 21<|Dd 23 Jj 22<|Mo 4 23<| .nil)) (.ret)))⟩
theorem W1v:chkFunc pg 48 rf48=true:=by kernel_rfl
def rf49:RFunc:=⟨18,[.t 4], .seq (.ops (Oo 4 (.mov (.c (.c (.bool false))))<| .nil)) (.seq (.seq (.ops (Xn 5 0<| .nil)) (.block 0 (.loop 1 [4,6,7,8,9,10,11,12,13,14,15,16,17] (.seq (.seq (.ops (Mo 6 5<|Mo 7 0<|Xl 8 7<|Xb 9 6 8<| .nil)) (.cond (Tt 9) (.skip) (.exit 0) none)) (.seq (.block 1 (.seq (.ops (Mo 12 0<|Mo 13 5<|Xi 14 1 12 13<|Dd 15 Jj 14<|Mo 16 1<|Oo 17 (Ce (Tt 15) (Tt 16))<| .nil)) (.cond (Tt 17) (.seq (.ops (Oo 4 (.mov (.c (.c (.bool true))))<| .nil)) (.ret)) (.skip) none))) (.ops (Mo 10 5<|Xp 11 10 1<|Mo 5 11<| .nil))))))) (.seq (.ops (Oo 4 (.mov (.c (.c (.bool false))))<| .nil)) (.ret)))⟩
theorem W1w:chkFunc pg 49 rf49=true:=by kernel_rfl
def rf50:RFunc:=⟨44,[.t 6], .seq (.ops (.lbox 4 3 (Tt 0)<| .lbox 4 4 (Tt 1)<|Oo 6 (.mov (.c (.c (.bool false))))<| .nil)) (.seq (.seq (.ops (Xn 7 0<| .nil)) (.block 0 (.loop 1 [0,1,6,8,9,10,11,12,13,14,15,16,17,18,19,20,21,22,23,24,25,26,27,28,29,30,31,32,33,34,35,36,37,38,39,40,41,42,43] (.seq (.seq (.ops (Mo 8 7<|Xf 9 2 3<|Xc 10 3 9<|Xl 11 10<|Xb 12 8 11<| .nil)) (.cond (Tt 12) (.skip) (.exit 0) none)) (.seq (.block 1 (.seq (.dops [0,1,2,3,4,6,7,5,8,9,10,11,12,13,14,16,17,15,18,19,20,21,22,23,24,26,25,27,28] [15,16,17,18,19,20,21,22,23,24,25,26,27,28,29,30,31,32,33,34,35,36,37,38,39,40,41,42,43] [] (Xf 15 2 3<|Xc 16 3 15<|Mo 17 7<|Xi 18 4 16 17<|Xf 19 0 18<|Xf 21 0 4<|Xj 22 4 21<|Dd 20 Jj 19<|Oo 23 (Ce (Tt 20) (Tt 22))<|Mo 24 23<| .logic true 24 (Xf 25 2 3<|Xc 26 3 25<|Mo 27 7<|Xi 28 4 26 27<|Xf 29 1 28<|Xf 31 1 4<|Xj 32 4 31<|Dd 30 Jj 29<|Oo 33 (Ce (Tt 30) (Tt 32))<| .nil) (Tt 33) 34<|Mo 35 34<| .logic true 35 (Xf 36 2 3<|Xc 37 3 36<|Mo 38 7<|Xi 39 4 37 38<|Mo 41 2<|Oo 40 (.lds [Jj,Jj,Jj,Jj] (Tt 39))<|X2 42 43 Ob' 40 41<| .nil) (Tt 42) 43<| .nil)) (.cond (Tt 43) (.seq (.ops (Oo 6 (.mov (.c (.c (.bool true))))<| .nil)) (.ret)) (.skip) none))) (.ops (Mo 13 7<|Xp 14 13 1<|Mo 7 14<| .nil))))))) (.seq (.ops (Oo 6 (.mov (.c (.c (.bool false))))<| .nil)) (.ret)))⟩
theorem W1x:chkFunc pg 50 rf50=true:=by kernel_rfl
def rf51:RFunc:=⟨20,[.t 4], .seq (.ops (.lbox 2 2 (Tt 0)<|Xn 4 0<| .nil)) (.seq (.seq (.ops (Mo 5 1<|Xp 6 5 1<|Xf 7 0 2<|Xc 8 2 7<|Xl 9 8<|Xf 10 1 2<|Xc 11 2 10<|Xl 12 11<|Oo 13 (.ar .add .i64 (Tt 9) (Tt 12))<|Xb 14 6 13<| .nil)) (.cond (Tt 14) (.seq (.ops (Mo 15 1<|Xp 16 15 1<|Mo 4 16<| .nil)) (.ret)) (.skip) none)) (.seq (.ops (Xf 17 0 2<|Xc 18 2 17<|Xl 19 18<|Mo 4 19<| .nil)) (.ret)))⟩
theorem W1y:chkFunc pg 51 rf51=true:=by kernel_rfl
def rf52:RFunc:=⟨18,[.t 2], .seq (.ops (Xn 2 0<| .nil)) (.seq (.ops (Xn 3 0<| .nil)) (.seq (.seq (.ops (Mo 6 0<|Xl 7 6<|Xn 8 0<| .nil)) (.block 0 (.loop 1 [0,2,5,9,10,11,12,13,14,15,16] (.seq (.ops (Xb 9 8 7<| .nil)) (.seq (.cond (Tt 9) (.skip) (.exit 0) none) (.seq (.block 1 (.seq (.ops (Xi 10 1 6 8<|Dd 11 Jj 10<|Mo 5 11<| .nil)) (.seq (.ops (Mo 12 5<|Mo 13 3<|Oo 14 (Cn' (Tt 12) (Tt 13))<| .nil)) (.cond (Tt 14) (.seq (.ops (Mo 15 5<|Mo 2 15<| .nil)) (.ret)) (.skip) none)))) (.ops (Xp 16 8 1<|Mo 8 16<| .nil)))))))) (.seq (.ops (Mo 17 3<|Mo 2 17<| .nil)) (.ret))))⟩
theorem W1z:chkFunc pg 52 rf52=true:=by kernel_rfl
def rf53:RFunc:=⟨7,[.t 4], .seq (.ops (Xn 4 0<| .nil)) (.seq (.seq (.ops (Mo 5 0<| .nil)) (.cond (Tt 5) (.seq (.ops (Mo 6 1<|Mo 4 6<| .nil)) (.ret)) (.skip) none)) (.seq (.ops (Xn 4 0<| .nil)) (.ret)))⟩
theorem W1A:chkFunc pg 53 rf53=true:=by kernel_rfl
def rf54:RFunc:=⟨36,[.t 2], .seq (.ops (X0 2<| .nil)) (.seq (.ops (Xn 3 0<| .nil)) (.seq (.seq (.ops (Mo 9 0<|Xl 10 9<|Xn 11 0<| .nil)) (.block 0 (.loop 1 [2,5,12,13,14,15,16,17,18,19,20,21,22] (.seq (.ops (Xb 12 11 10<| .nil)) (.seq (.cond (Tt 12) (.skip) (.exit 0) none) (.seq (.block 1 (.seq (.ops (Xi 13 1 9 11<|Dd 14 .c 13<|Mo 5 14<| .nil)) (.seq (.ops (Mo 15 3<|Mo 16 5<|Xl 17 16<|Oo 18 (.ar .add .i64 (Tt 15) (Tt 17))<|Mo 3 18<| .nil)) (.seq (.ops (Mo 19 3<|Oo 20 (Cl (Tt 19) (Nn 0))<| .nil)) (.cond (Tt 20) (.stuck) (.skip) (some (2,[5,12,13,14,15,16,17,18,19,20,21]))))))) (.ops (Xp 22 11 1<|Mo 11 22<| .nil)))))))) (.seq (.ops (Mo 23 3<|Oo 24 (.call 89 Oc' [(.c (.c .nilSlice)),(Tt 23)])<|Mo 6 24<| .nil)) (.seq (.seq (.ops (Mo 25 0<|Xl 26 25<|Xn 27 0<| .nil)) (.block 2 (.loop 3 [0,2,3,5,8,9,10,11,12,13,14,15,16,17,18,19,20,21,22,23,24,28,29,30,31,32,33,34] (.seq (.ops (Xb 28 27 26<| .nil)) (.seq (.cond (Tt 28) (.skip) (.exit 2) none) (.seq (.block 3 (.seq (.ops (Xi 29 1 25 27<|Dd 30 .c 29<|Mo 8 30<| .nil)) (.ops (Mo 31 6<|Mo 32 8<|Xa 33 1 31 32<|Mo 6 33<| .nil)))) (.ops (Xp 34 27 1<|Mo 27 34<| .nil)))))))) (.seq (.ops (Mo 35 6<|Mo 2 35<| .nil)) (.ret))))))⟩
theorem W1B:chkFunc pg 54 rf54=true:=by kernel_rfl
def rf55:RFunc:=⟨15,[.t 6], .seq (.ops (Oo 6 (.mov (.c (.c (.bool false))))<| .nil)) (.seq (.ops (Mo 7 1<|Mo 8 0<|Oo 9 (.cmp .leq .i64 (Tt 7) (Tt 8))<|Mo 10 9<| .logic true 10 (Mo 11 0<|Mo 12 2<|Oo 13 (.cmp .leq .i64 (Tt 11) (Tt 12))<| .nil) (Tt 13) 14<|Mo 6 14<| .nil)) (.ret))⟩
theorem W1C:chkFunc pg 55 rf55=true:=by kernel_rfl
def rf56:RFunc:=⟨9,[.t 4], .seq (.ops (Oo 4 (.mov (.c (.c (.bool false))))<| .nil)) (.seq (.ops (Mo 5 0<|Mo 6 1<|X2 7 90 Oj 5 6<|Oo 8 (.cmp .geq .i64 (Tt 7) (Nn 0))<|Mo 4 8<| .nil)) (.ret))⟩
theorem W1D:chkFunc pg 56 rf56=true:=by kernel_rfl
def rf60:RFunc:=⟨19,[.t 4], .seq (.ops (.lbox 4 2 (Tt 0)<|Oo 4 (.mov (.c (.c (.bool false))))<| .nil)) (.seq (.ops (Mo 5 1<|Xf 6 2 2<|Xj 7 2 6<|Oo 8 (.bit .and .i64 (Tt 5) (Tt 7))<|Xf 9 2 2<|Xj 10 2 9<|Oo 11 (Ce (Tt 8) (Tt 10))<|Mo 12 11<| .logic true 12 (Mo 13 1<|Xf 14 3 2<|Xj 15 2 14<|Oo 16 (.bit .and .i64 (Tt 13) (Tt 15))<|Oo 17 (Ce (Tt 16) (Nn 0))<| .nil) (Tt 17) 18<|Mo 4 18<| .nil)) (.ret))⟩
theorem W1E:chkFunc pg 60 rf60=true:=by kernel_rfl
def rf61:RFunc:=⟨9,[.t 4], .seq (.ops (Oo 4 (.mov (.c (.c (.bool false))))<| .nil)) (.seq (.ops (Mo 5 0<|Mo 6 1<|X2 7 91 Oj 5 6<|Oo 8 (.cmp .geq .i64 (Tt 7) (Nn 0))<|Mo 4 8<| .nil)) (.ret))⟩
theorem W1F:chkFunc pg 61 rf61=true:=by kernel_rfl
def rf63:RFunc:=⟨42,[.t 4, .t 5], .seq (.ops (Xn 4 0<|Xn 5 0<| .nil)) (.seq (.seq (.ops (Mo 9 0<|Xl 10 9<|Xn 11 0<| .nil)) (.block 0 (.loop 1 [4,5,6,7,8,12,13,14,15,16,17,18,19,20,21,22,23,24,25,26,27,28,29,30,31,32,33,34,35,36,37,38,39,40,41] (.seq (.ops (Xb 12 11 10<| .nil)) (.seq (.cond (Tt 12) (.skip) (.exit 0) none) (.seq (.block 1 (.seq (.ops (Mo 13 11<|Xi 14 1 9 11<|Dd 15 Jj 14<|Mo 6 13<|Mo 7 15<| .nil)) (.seq (.ops (Mo 16 7<|Mo 17 1<|Oo 18 (.ar .sub .i64 (Tt 17) (Nn 1))<|Oo 19 (.call 55 Ob' [(Tt 16),(Nn 0),(Tt 18)])<|Xt 20 19<|Oo 21 (.call 53 Oj [(Tt 20),(Nn 3)])<|Mo 22 6<|Oo 23 (.cmp .gtr .i64 (Tt 22) (Nn 0))<|Mo 24 23<| .logic true 24 (Mo 25 7<|Mo 26 0<|Mo 27 6<|Oo 28 (.ar .sub .i64 (Tt 27) (Nn 1))<|Oo 29 (.mm true .i64 (Tt 28) (Nn 0))<|Xi 30 1 26 29<|Dd 31 Jj 30<|Oo 32 (.cmp .leq .i64 (Tt 25) (Tt 31))<| .nil) (Tt 32) 33<|Oo 34 (.call 53 Oj [(Tt 33),(Nn 13)])<|Oo 35 (.lit 1 2 [(.int .i64 0),(.int .i64 0)] [(0,1,(Tt 21)),(1,1,(Tt 34))])<|X1 36 52 Oj 35<|Mo 8 36<| .nil)) (.seq (.ops (Mo 37 8<|Oo 38 (Cn' (Tt 37) (Nn 0))<| .nil)) (.cond (Tt 38) (.seq (.ops (Mo 39 6<|Mo 40 8<|Mo 4 39<|Mo 5 40<| .nil)) (.ret)) (.skip) none))))) (.ops (Xp 41 11 1<|Mo 11 41<| .nil)))))))) (.seq (.ops (Xn 4 0<|Xn 5 0<| .nil)) (.ret)))⟩
theorem W1G:chkFunc pg 63 rf63=true:=by kernel_rfl
def rf65:RFunc:=⟨30,[.t 6], .seq (.ops (.lbox 4 3 (Tt 0)<|Xn 6 0<| .nil)) (.seq (.seq (.dops [0,1,2,4,5,6,3,7,8] [7,8,9,10,11,12,13,14,15] [] (Mo 7 1<|Mo 8 2<|Xi 9 1 7 8<|Xf 11 0 3<|Xj 12 3 11<|Oo 13 (.ar .sub .i64 (Tt 12) (Nn 1))<|Dd 10 Jj 9<|Oo 14 (.call 41 Ob' [(Tt 10),(Nn 0),(Tt 13)])<|Xt 15 14<| .nil)) (.cond (Tt 15) (.seq (.ops (Xn 6 3<| .nil)) (.ret)) (.skip) none)) (.seq (.seq (.dops [0,1,2,3,4,5,7,8,9,10,6,11,12,13] [16,17,18,19,20,21,22,23,24,25,26,27,28,29] [] (Mo 16 2<|Oo 17 (.cmp .gtr .i64 (Tt 16) (Nn 0))<|Mo 18 17<| .logic true 18 (Mo 19 1<|Mo 20 2<|Xi 21 1 19 20<|Mo 23 1<|Mo 24 2<|Oo 25 (.ar .sub .i64 (Tt 24) (Nn 1))<|Xi 26 1 23 25<|Dd 22 Jj 21<|Dd 27 Jj 26<|Oo 28 (.cmp .leq .i64 (Tt 22) (Tt 27))<| .nil) (Tt 28) 29<| .nil)) (.cond (Tt 29) (.seq (.ops (Xn 6 13<| .nil)) (.ret)) (.skip) none)) (.seq (.ops (Xn 6 0<| .nil)) (.ret))))⟩
theorem W1H:chkFunc pg 65 rf65=true:=by kernel_rfl
def rf69:RFunc:=⟨9,[.t 2], .seq (.ops (.lbox 4 1 (Tt 0)<|Oo 2 (.mov (.c (.c (.bool false))))<| .nil)) (.seq (.ops (Xf 3 2 1<|Xj 4 1 3<|Xf 5 3 1<|Xj 6 1 5<|Oo 7 (.bit .and .i64 (Tt 4) (Tt 6))<|Oo 8 (Ce (Tt 7) (Nn 0))<|Mo 2 8<| .nil)) (.ret))⟩
theorem W1I:chkFunc pg 69 rf69=true:=by kernel_rfl
def rf72:RFunc:=⟨53,[.t 2, .t 3], .seq (.ops (.lbox 4 1 (Tt 0)<|X0 2<|X0 3<| .nil)) (.seq (.ops (Xf 10 0 1<|Xj 11 1 10<|Oo 12 (.mkS 1 [.nilSlice] (Tt 11))<|Mo 4 12<| .nil)) (.seq (.seq (.ops (Xf 13 2 1<|Xc 14 1 13<|Xl 15 14<|Xn 16 0<| .nil)) (.block 0 (.loop 1 [0,2,3,6,10,11,12,13,17,18,19,20,21,22,23,24,25,26,27,28,29,30,31,32,33,34,35] (.seq (.ops (Xb 17 16 15<| .nil)) (.seq (.cond (Tt 17) (.skip) (.exit 0) none) (.seq (.block 1 (.seq (.ops (Xi 18 4 14 16<|Oo 19 (.lds [Jj,Jj,Jj,Jj] (Tt 18))<| .lnew 6 [(.int .i64 0),(.int .i64 0),(.int .i64 0),(.int .i64 0)]<| .st (some 6) 4 (Tt 6) (Tt 19)<| .nil)) (.seq (.ops (Oo 20 (.ldsL 6 [Jj,Jj,Jj,Jj] (Tt 6))<|X1 21 69 Ob' 20<| .nil)) (.cond (Tt 21) (.dops [0,1,2,3,4,5,6,8,9,7,10,11,12,13] [22,23,24,25,26,27,28,29,30,31,32,33,34] [] (Mo 22 4<|Xf 23 0 6<|Xj 24 6 23<|Mo 25 4<|Xf 26 0 6<|Xj 27 6 26<|Xi 28 1 25 27<|Xf 30 1 6<|Xj 31 6 30<|Dd 29 .c 28<|Oo 32 (.lit 1 1 [(.int .i64 0)] [(0,1,(Tt 31))])<|Xa 33 1 29 32<|Xi 34 1 22 24<| .st none 1 (Tt 34) (Tt 33)<| .nil)) (.skip) (some (2,[6,17,18,19,20,21,22,23,24,25,26,27,28,29,30,31,32,33,34])))))) (.ops (Xp 35 16 1<|Mo 16 35<| .nil)))))))) (.seq (.ops (X0 7<| .nil)) (.seq (.seq (.ops (Xf 36 3 1<|Xc 37 1 36<|Xl 38 37<|Xn 39 0<| .nil)) (.block 2 (.loop 3 [0,2,3,6,9,10,11,12,13,14,15,16,17,18,19,20,21,22,23,24,25,26,27,28,29,30,31,32,33,34,35,36,40,41,42,43,44,45,46,47,48,49,50] (.seq (.ops (Xb 40 39 38<| .nil)) (.seq (.cond (Tt 40) (.skip) (.exit 2) none) (.seq (.block 3 (.seq (.ops (Xi 41 1 37 39<|Dd 42 .c 41<|Mo 9 42<| .nil)) (.ops (Mo 43 7<|Mo 44 9<|Xf 45 0 1<|Xj 46 1 45<|Oo 47 (.call 85 Oc' [(Tt 44),(Tt 46),(.f 97)])<|Oo 48 (.lit 1 1 [.nilSlice] [(0,1,(Tt 47))])<|Xa 49 1 43 48<|Mo 7 49<| .nil)))) (.ops (Xp 50 39 1<|Mo 39 50<| .nil)))))))) (.seq (.ops (Mo 51 4<|Mo 52 7<|Mo 2 51<|Mo 3 52<| .nil)) (.ret))))))⟩
theorem W1J:chkFunc pg 72 rf72=true:=by kernel_rfl
def rf73:RFunc:=⟨100,[.t 8, .t 9, .t 10], .seq (.ops (Oo 7 (.box 1 (Tt 3))<|X0 8<|X0 9<|Oo 10 (.mov (.c (.c (.bool false))))<| .nil)) (.seq (.ops (Mo 24 0<|X1 25 93 Oc' 24<|Oo 11 (.new [.nilSlice])<| .st none 1 (Tt 11) (Tt 25)<| .nil)) (.seq (.ops (Mo 26 0<|Dd 27 .c 11<|Mo 28 2<|X3 29 92 Oc' 26 27 28<|Oo 12 (.new [.nilSlice])<| .st none 1 (Tt 12) (Tt 29)<| .nil)) (.seq (.ops (Oo 13 (.mov (.f 98))<| .nil)) (.seq (.ops (Mo 31 0<|Mo 32 1<|Mo 33 13<|Oo 34 (.mkF 100 [(Tt 12),(Tt 7)])<|Oo 35 (.call 99 .any [(Tt 31),(Tt 32),(Nn 0),(Tt 33),(Tt 34)])<|Mo 30 35<|Xe 36 Oc' 30 0<|Xe 37 Ob' 30 1<|Mo 14 36<|Mo 15 37<| .nil)) (.seq (.seq (.ops (Mo 38 15<|Xt 39 38<| .nil)) (.cond (Tt 39) (.seq (.ops (X0 8<|X0 9<|Oo 10 (.mov (.c (.c (.bool false))))<| .nil)) (.ret)) (.skip) none)) (.seq (.ops (Mo 40 14<|Mo 41 14<|Xl 42 41<|Oo 43 (.ar .sub .i64 (Tt 42) (Nn 1))<|Xi 44 1 40 43<|Dd 45 Jj 44<|Oo 16 (.new [(.int .i64 0)])<| .st none 1 (Tt 16) (Tt 45)<| .nil)) (.seq (.ops (Oo 46 (.mkF 101 [(Tt 11),(Tt 16)])<|Mo 17 46<| .nil)) (.seq (.ops (Dd 47 Jj 16<|Oo 48 (.lit 1 1 [(.int .i64 0)] [(0,1,(Tt 47))])<|Mo 9 48<| .nil)) (.seq (.seq (.ops (Mo 49 2<|Xl 50 49<|Xn 51 0<| .nil)) (.block 0 (.loop 1 [1,2,3,7,8,10,11,12,13,15,19,20,21,24,25,26,27,28,29,30,31,32,33,34,35,36,37,38,39,40,41,42,43,44,45,46,47,48,52,53,54,55,56,57,58,59,60,61,62,63,64,65,66,67,68,69,70,71,72,73,74] (.seq (.ops (Xb 52 51 50<| .nil)) (.seq (.cond (Tt 52) (.skip) (.exit 0) none) (.seq (.block 1 (.seq (.ops (Xi 53 1 49 51<|Dd 54 .c 53<|Oo 19 (.new [.nilSlice])<| .st none 1 (Tt 19) (Tt 54)<| .nil)) (.seq (.seq (.ops (Mo 55 9<|Oo 56 (.mkF 102 [(Tt 19)])<|X2 57 61 Ob' 55 56<| .nil)) (.cond (Tt 57) (.exit 1) (.skip) none)) (.seq (.ops (Mo 59 0<|Mo 60 9<|Mo 61 9<|Xl 62 61<|Oo 63 (.ar .sub .i64 (Tt 62) (Nn 1))<|Oo 64 (.sub 1 (Tt 60) (some (Tt 63)) none)<|Mo 65 17<|Oo 66 (.mkF 103 [(Tt 19)])<|Oo 67 (.call 99 .any [(Tt 59),(Tt 64),(Nn 1),(Tt 65),(Tt 66)])<|Mo 58 67<|Xe 68 Oc' 58 0<|Xe 69 Ob' 58 1<|Mo 20 68<|Mo 21 69<| .nil)) (.ops (Mo 70 9<|Mo 71 20<|Oo 72 (.sub 1 (Tt 71) (some (Nn 1)) none)<|Xa 73 1 70 72<|Mo 9 73<| .nil)))))) (.ops (Xp 74 51 1<|Mo 51 74<| .nil)))))))) (.seq (.ops (Mo 76 0<|Mo 77 9<|Mo 78 9<|Xl 79 78<|Oo 80 (.ar .sub .i64 (Tt 79) (Nn 1))<|Oo 81 (.sub 1 (Tt 77) (some (Tt 80)) none)<|Mo 82 17<|Oo 83 (.mkF 104 [(Tt 16)])<|Oo 84 (.call 99 .any [(Tt 76),(Tt 81),(Nn 1),(Tt 82),(Tt 83)])<|Mo 75 84<|Xe 85 Oc' 75 0<|Xe 86 Ob' 75 1<|Mo 22 85<|Mo 23 86<| .nil)) (.seq (.ops (Mo 87 9<|Mo 88 22<|Mo 89 22<|Xl 90 89<|Oo 91 (.ar .sub .i64 (Tt 90) (Nn 1))<|Oo 92 (.sub 1 (Tt 88) (some (Nn 1)) (some (Tt 91)))<|Xa 93 1 87 92<|Mo 9 93<| .nil)) (.seq (.ops (Mo 94 14<|Mo 95 14<|Xl 96 95<|Oo 97 (.ar .sub .i64 (Tt 96) (Nn 1))<|Oo 98 (.sub 1 (Tt 94) none (some (Tt 97)))<|Mo 99 9<|Mo 8 98<|Mo 9 99<|Oo 10 (.mov (.c (.c (.bool true))))<| .nil)) (.ret)))))))))))))⟩
theorem W1K:chkFunc pg 73 rf73=true:=by kernel_rfl
def rf74:RFunc:=⟨15,[.t 3], .seq (.ops (Oo 3 (.mov (.c (.c (.bool false))))<| .nil)) (.seq (.ops (Dd 4 .c 1<|Xl 5 4<|Oo 6 (Ce (Tt 5) (Nn 0))<|Mo 7 6<| .logic false 7 (Dd 8 .c 1<|Oo 9 (.idx 1 (Tt 8) (Nn 0))<|Dd 10 .c 9<|Mo 11 0<|Xi 12 1 10 11<|Dd 13 .bool 12<| .nil) (Tt 13) 14<|Mo 3 14<| .nil)) (.ret))⟩
theorem W1L:chkFunc pg 74 rf74=true:=by kernel_rfl
def rf75:RFunc:=⟨19,[.t 4], .seq (.ops (Xn 4 0<| .nil)) (.seq (.seq (.ops (Mo 6 0<|Xl 7 6<|Xn 8 0<| .nil)) (.block 0 (.loop 1 [4,5,6,9,10,11,12,13,14,15,16,17,18] (.seq (.ops (Xb 9 8 7<| .nil)) (.seq (.cond (Tt 9) (.skip) (.exit 0) none) (.seq (.block 1 (.seq (.ops (Mo 10 8<|Mo 5 10<| .nil)) (.seq (.ops (Mo 11 1<|Mo 12 0<|Mo 13 5<|Xi 14 4 12 13<|Oo 15 (.lds [Jj,Jj,Jj,Jj] (Tt 14))<|Oo 16 (.callV (Tt 11) Ob' [(Tt 15)])<| .nil)) (.cond (Tt 16) (.seq (.ops (Mo 17 5<|Mo 4 17<| .nil)) (.ret)) (.skip) none)))) (.ops (Xp 18 8 1<|Mo 8 18<| .nil)))))))) (.seq (.ops (Oo 4 (.mov (.c (.c (.int .i64 (-1)))))<| .nil)) (.ret)))⟩
theorem W1M:chkFunc pg 75 rf75=true:=by kernel_rfl
def rf76:RFunc:=⟨19,[.t 4], .seq (.ops (.lbox 4 3 (Tt 0)<|Oo 4 (.mov (.c (.c (.bool false))))<| .nil)) (.seq (.ops (Xf 5 0 3<|Xj 6 3 5<|Dd 7 Jj 1<|Oo 8 (Ce (Tt 6) (Tt 7))<|Mo 9 8<| .logic true 9 (Xf 10 1 3<|Xj 11 3 10<|Dd 12 Jj 2<|Oo 13 (Ce (Tt 11) (Tt 12))<| .nil) (Tt 13) 14<|Mo 15 14<| .logic true 15 (Oo 16 (.ldsL 3 [Jj,Jj,Jj,Jj] (Tt 3))<|X1 17 69 Ob' 16<| .nil) (Tt 17) 18<|Mo 4 18<| .nil)) (.ret))⟩
theorem W1N:chkFunc pg 76 rf76=true:=by kernel_rfl
def rf77:RFunc:=⟨17,[.cells 2 2, .t 3], .seq (.ops (.lbox 2 1 (Tt 0)<| .lnew 2 [.nilSlice, .nilSlice]<|Xn 3 0<| .nil)) (.seq (.seq (.ops (Xf 4 0 1<|Xc 5 1 4<|Xl 6 5<|Xf 7 1 1<|Xc 8 1 7<|Xl 9 8<|Oo 10 (.ar .add .i64 (Tt 6) (Tt 9))<|Oo 11 (.cmp .gtr .i64 (Tt 10) (Nn 60))<| .nil)) (.cond (Tt 11) (.seq (.ops (Oo 12 (.build [.nilSlice, .nilSlice] [])<| .st (some 2) 2 (Tt 2) (Tt 12)<|Xn 3 2<| .nil)) (.ret)) (.skip) none)) (.seq (.ops (Oo 13 (.ldsL 1 [.c, .c] (Tt 1))<|X1 14 105 .any 13<|Oo 15 (.ext (.agg [.c, .c]) (Tt 14) 0)<|Xe 16 Oj 14 1<| .st (some 2) 2 (Tt 2) (Tt 15)<|Mo 3 16<| .nil)) (.ret)))⟩
theorem W1O:chkFunc pg 77 rf77=true:=by kernel_rfl
def rf81:RFunc:=⟨10,[.t 4], .seq (.ops (Oo 4 (.mov (.c (.c (.bool false))))<| .nil)) (.seq (.ops (Mo 5 0<|Mo 6 1<|Oo 7 (.sh .shr .i64 .i64 (Tt 5) (Tt 6))<|Oo 8 (.dv .rem .i64 (Tt 7) (Nn 2))<|Oo 9 (Ce (Tt 8) (Nn 1))<|Mo 4 9<| .nil)) (.ret))⟩
theorem W1P:chkFunc pg 81 rf81=true:=by kernel_rfl
def rf82:RFunc:=⟨47,[.t 2], .seq (.ops (X0 2<| .nil)) (.seq (.ops (Mo 6 0<|Xl 7 6<|Oo 8 (.mkS 1 [.nilSlice] (Tt 7))<|Mo 3 8<| .nil)) (.seq (.seq (.ops (Xn 4 0<| .nil)) (.block 0 (.loop 1 [2,5,6,7,8,9,10,11,12,13,14,15,16,17,18,19,20,21,22,23,24,25,26,27,28,29,30,31,32,33,34,35,36,37,38,39,40,41,42,43,44,45] (.seq (.seq (.ops (Mo 9 4<|Mo 10 0<|Xl 11 10<|Xb 12 9 11<| .nil)) (.cond (Tt 12) (.skip) (.exit 0) none)) (.seq (.block 1 (.seq (.ops (Xn 5 0<| .nil)) (.block 2 (.loop 2 [9,10,11,12,15,16,17,18,19,20,21,22,23,24,25,26,27,28,29,30,31,32,33,34,35,36,37,38,39,40,41,42,43,44,45] (.seq (.seq (.ops (Mo 15 5<|Mo 16 0<|Mo 17 4<|Xi 18 1 16 17<|Dd 19 .c 18<|Xl 20 19<|Xb 21 15 20<| .nil)) (.cond (Tt 21) (.skip) (.exit 2) none)) (.seq (.block 3 (.dops [0,1,2,3,5,8,9,10,11,13,18,4,6,7,12,14,15,16,17,19,20,21,22] [24,25,26,27,28,29,30,31,32,33,34,35,36,37,38,39,40,41,42,43,44,45] [] (Mo 24 3<|Mo 25 0<|Mo 26 4<|Xi 27 1 25 26<|Mo 29 5<|Mo 32 3<|Mo 33 0<|Mo 34 4<|Xi 35 1 33 34<|Mo 37 5<|Mo 42 4<|Dd 28 .c 27<|Xi 30 1 28 29<|Dd 31 Jj 30<|Dd 36 .c 35<|Xi 38 1 36 37<|Dd 39 Jj 38<|Xi 40 1 32 39<|Dd 41 .c 40<|Oo 43 (.lit 1 1 [(.int .i64 0)] [(0,1,(Tt 42))])<|Oo 44 (.chkd (.chkd (.app 1 (Tt 41) (Tt 43)) 28 27 false [.c]) 31 30 false [Jj])<|Xi 45 1 24 31<| .st none 1 (Tt 45) (Tt 44)<| .nil))) (.ops (Mo 22 5<|Xp 23 22 1<|Mo 5 23<| .nil)))))))) (.ops (Mo 13 4<|Xp 14 13 1<|Mo 4 14<| .nil))))))) (.seq (.ops (Mo 46 3<|Mo 2 46<| .nil)) (.ret))))⟩
theorem W1Q:chkFunc pg 82 rf82=true:=by kernel_rfl
def rf83:RFunc:=⟨85,[.t 6], .seq (.ops (X0 6<| .nil)) (.seq (.ops (Mo 13 1<|Xl 14 13<|Oo 15 (.mkS 1 [(.bool false)] (Tt 14))<|Mo 7 15<| .nil)) (.seq (.ops (X0 8<| .nil)) (.seq (.seq (.ops (Xn 9 0<| .nil)) (.block 0 (.loop 1 [6,13,14,15,16,17,18,19,20,21,22,23,24,25,26,27,28,29,30,31,32,33,34,35] (.seq (.seq (.ops (Mo 16 9<|Mo 17 1<|Xl 18 17<|Xb 19 16 18<| .nil)) (.cond (Tt 19) (.skip) (.exit 0) none)) (.seq (.block 1 (.seq (.ops (Mo 22 1<|Mo 23 9<|Xi 24 1 22 23<|Dd 25 .bool 24<|Mo 26 25<| .logic true 26 (Mo 27 2<|Mo 28 9<|Xi 29 1 27 28<|Dd 30 .bool 29<| .nil) (Tt 30) 31<| .nil)) (.cond (Tt 31) (.ops (Mo 32 8<|Mo 33 9<|Oo 34 (.lit 1 1 [(.int .i64 0)] [(0,1,(Tt 33))])<|Xa 35 1 32 34<|Mo 8 35<| .nil)) (.skip) (some (2,[16,17,18,19,22,23,24,25,26,27,28,29,30,31,32,33,34,35]))))) (.ops (Mo 20 9<|Xp 21 20 1<|Mo 9 21<| .nil))))))) (.seq (.block 2 (.loop 3 [2,6,9,10,11,12,13,14,15,16,17,18,19,20,21,22,23,24,25,26,27,28,29,30,31,32,33,34,35,36,37,38,39,40,41,42,43,44,45,46,47,48,49,50,51,52,53,54,55,56,57,58,59,60,61,62,63,64,65,66,67,68,69,70,71,72,73,74,75,76,77,78,79,80,81,82,83] (.seq (.seq (.ops (Mo 36 8<|Xl 37 36<|Oo 38 (.cmp .gtr .i64 (Tt 37) (Nn 0))<| .nil)) (.cond (Tt 38) (.skip) (.exit 2) none)) (.block 3 (.seq (.ops (Mo 39 8<|Mo 40 8<|Xl 41 40<|Oo 42 (.ar .sub .i64 (Tt 41) (Nn 1))<|Xi 43 1 39 42<|Dd 44 Jj 43<|Mo 10 44<| .nil)) (.seq (.ops (Mo 45 8<|Mo 46 8<|Xl 47 46<|Oo 48 (.ar .sub .i64 (Tt 47) (Nn 1))<|Oo 49 (.sub 1 (Tt 45) none (some (Tt 48)))<|Mo 8 49<| .nil)) (.seq (.ops (Xn 11 0<| .nil)) (.block 4 (.loop 4 [12,36,37,38,39,40,41,42,43,44,45,46,47,48,49,50,51,52,53,54,55,56,57,58,59,60,61,62,63,64,65,66,67,68,69,70,71,72,73,74,75,76,77,78,79,80,81,82,83] (.seq (.seq (.ops (Mo 50 11<|Mo 51 0<|Mo 52 10<|Xi 53 1 51 52<|Dd 54 .c 53<|Xl 55 54<|Xb 56 50 55<| .nil)) (.cond (Tt 56) (.skip) (.exit 4) none)) (.seq (.block 5 (.seq (.ops (Mo 59 0<|Mo 60 10<|Xi 61 1 59 60<|Dd 62 .c 61<|Mo 63 11<|Xi 64 1 62 63<|Dd 65 Jj 64<|Mo 12 65<| .nil)) (.seq (.ops (Mo 66 1<|Mo 67 12<|Xi 68 1 66 67<|Dd 69 .bool 68<|Mo 70 69<| .logic true 70 (Mo 71 7<|Mo 72 12<|Xi 73 1 71 72<|Dd 74 .bool 73<|Xt 75 74<| .nil) (Tt 75) 76<| .nil)) (.cond (Tt 76) (.seq (.ops (Mo 77 7<|Mo 78 12<|Xi 79 1 77 78<| .st none 1 (Tt 79) (.c (.c (.bool true)))<| .nil)) (.ops (Mo 80 8<|Mo 81 12<|Oo 82 (.lit 1 1 [(.int .i64 0)] [(0,1,(Tt 81))])<|Xa 83 1 80 82<|Mo 8 83<| .nil))) (.skip) (some (5,[12,50,51,52,53,54,55,56,59,60,61,62,63,64,65,66,67,68,69,70,71,72,73,74,75,76,77,78,79,80,81,82,83])))))) (.ops (Mo 57 11<|Xp 58 57 1<|Mo 11 58<| .nil))))))))))))) (.seq (.ops (Mo 84 7<|Mo 6 84<| .nil)) (.ret))))))⟩
theorem W1R:chkFunc pg 83 rf83=true:=by kernel_rfl
def rf84:RFunc:=⟨35,[.t 2], .seq (.ops (.lbox 2 1 (Tt 0)<|Xn 2 0<| .nil)) (.seq (.ops (Oo 3 (.mov (.f 106))<| .nil)) (.seq (.dops [0,1,2,3,5,6,7,8,9,10,11,12,4,13,14,15,16] [4,5,6,7,8,9,10,11,12,13,14,15,16,17,18,19,20] [] (Xf 5 1 1<|Xc 6 1 5<|Xl 7 6<|Oo 8 (Ce (Tt 7) (Nn 0))<|Xf 10 0 1<|Xc 11 1 10<|Xl 12 11<|Xf 13 1 1<|Xc 14 1 13<|Xl 15 14<|Oo 16 (.ar .add .i64 (Tt 12) (Tt 15))<|Oo 17 (.cmp .gtr .i64 (Tt 16) (Nn 60))<|Oo 9 (.call 108 Oj [(Tt 8),(Nn 1)])<|Oo 18 (.call 108 Oj [(Tt 17),(Nn 2)])<|Oo 19 (.lit 1 2 [(.int .i64 0),(.int .i64 0)] [(0,1,(Tt 9)),(1,1,(Tt 18))])<|X1 20 52 Oj 19<|Mo 4 20<| .nil)) (.seq (.seq (.ops (Mo 21 4<|Oo 22 (Cn' (Tt 21) (Nn 0))<| .nil)) (.cond (Tt 22) (.seq (.ops (Mo 23 4<|Mo 2 23<| .nil)) (.ret)) (.skip) none)) (.seq (.ops (Xf 24 0 1<|Xc 25 1 24<|Mo 26 3<|X2 27 61 Ob' 25 26<|Mo 28 27<| .logic false 28 (Xf 29 1 1<|Xc 30 1 29<|Mo 31 3<|X2 32 61 Ob' 30 31<| .nil) (Tt 32) 33<|Oo 34 (.call 108 Oj [(Tt 33),(Nn 3)])<|Mo 2 34<| .nil)) (.ret)))))⟩
theorem W1S:chkFunc pg 84 rf84=true:=by kernel_rfl
def rf85:RFunc:=⟨26,[.t 6], .seq (.ops (X0 6<| .nil)) (.seq (.ops (Mo 9 1<|Oo 10 (.mkS 1 [(.bool false)] (Tt 9))<|Mo 7 10<| .nil)) (.seq (.seq (.ops (Mo 11 7<|Xl 12 11<|Xn 13 0<| .nil)) (.block 0 (.loop 1 [1,6,8,9,10,11,14,15,16,17,18,19,20,21,22,23,24] (.seq (.ops (Xb 14 13 12<| .nil)) (.seq (.cond (Tt 14) (.skip) (.exit 0) none) (.seq (.block 1 (.seq (.ops (Mo 15 13<|Mo 8 15<| .nil)) (.ops (Mo 16 7<|Mo 17 8<|Mo 18 0<|Mo 19 2<|Mo 20 8<|Oo 21 (.callV (Tt 19) Oj [(Tt 20)])<|X2 22 56 Ob' 18 21<|Xi 23 1 16 17<| .st none 1 (Tt 23) (Tt 22)<| .nil)))) (.ops (Xp 24 13 1<|Mo 13 24<| .nil)))))))) (.seq (.ops (Mo 25 7<|Mo 6 25<| .nil)) (.ret))))⟩
theorem W1T:chkFunc pg 85 rf85=true:=by kernel_rfl
def rf86:RFunc:=⟨8,[.t 3], .seq (.ops (Xn 3 0<| .nil)) (.seq (.ops (Mo 4 0<|Xf 5 0 1<|Dd 6 Jj 5<|Oo 7 (.dv .rem .i64 (Tt 4) (Tt 6))<|Mo 3 7<| .nil)) (.ret))⟩
theorem W1U:chkFunc pg 86 rf86=true:=by kernel_rfl
def rf87:RFunc:=⟨12,[.t 3], .seq (.ops (Oo 3 (.mov (.c (.c (.bool false))))<| .nil)) (.seq (.dops [0,1,2,5,3,4,6,7,8] [3,4,5,6,7,8,9,10,11] [] (Mo 4 0<|Xf 5 0 1<|Xf 6 0 5<|Xf 9 5 1<|Dd 7 Jj 6<|Oo 8 (.dv .quo .i64 (Tt 4) (Tt 7))<|Dd 10 Jj 9<|Oo 11 (Ce (Tt 8) (Tt 10))<|Mo 3 11<| .nil)) (.ret))⟩
theorem W1V:chkFunc pg 87 rf87=true:=by kernel_rfl
def rf88:RFunc:=⟨23,[.t 3], .seq (.ops (X0 3<| .nil)) (.seq (.ops (X0 4<| .nil)) (.seq (.seq (.ops (Mo 7 0<|Xl 8 7<|Xn 9 0<| .nil)) (.block 0 (.loop 1 [0,3,6,10,11,12,13,14,15,16,17,18,19,20,21] (.seq (.ops (Xb 10 9 8<| .nil)) (.seq (.cond (Tt 10) (.skip) (.exit 0) none) (.seq (.block 1 (.seq (.ops (Xi 11 1 7 9<|Dd 12 Jj 11<|Mo 6 12<| .nil)) (.ops (Mo 13 4<|Mo 14 6<|Xf 15 0 1<|Xf 16 0 15<|Dd 17 Jj 16<|Oo 18 (.dv .rem .i64 (Tt 14) (Tt 17))<|Oo 19 (.lit 1 1 [(.int .i64 0)] [(0,1,(Tt 18))])<|Xa 20 1 13 19<|Mo 4 20<| .nil)))) (.ops (Xp 21 9 1<|Mo 9 21<| .nil)))))))) (.seq (.ops (Mo 22 4<|Mo 3 22<| .nil)) (.ret))))⟩
theorem W1W:chkFunc pg 88 rf88=true:=by kernel_rfl
def rf89:RFunc:=⟨27,[.t 4], .seq (.ops (X0 4<| .nil)) (.seq (.seq (.ops (Mo 5 1<|Oo 6 (Cl (Tt 5) (Nn 0))<| .nil)) (.cond (Tt 6) (.stuck) (.skip) (some (1,[4,5,6,7])))) (.seq (.seq (.ops (Mo 8 1<|Mo 9 0<|Oo 10 (.capN (Tt 9))<|Mo 11 0<|Xl 12 11<|Oo 13 (.ar .sub .i64 (Tt 10) (Tt 12))<|Oo 14 (.ar .sub .i64 (Tt 8) (Tt 13))<|Mo 1 14<| .nil)) (.seq (.ops (Mo 15 1<|Oo 16 (.cmp .gtr .i64 (Tt 15) (Nn 0))<| .nil)) (.cond (Tt 16) (.ops (Mo 17 0<|Mo 18 0<|Oo 19 (.capN (Tt 18))<|Oo 20 (.sub 1 (Tt 17) none (some (Tt 19)))<|Mo 21 1<|Oo 22 (.appZ 1 [(.int .i64 0)] (Tt 20) (Tt 21))<|Mo 23 0<|Xl 24 23<|Oo 25 (.sub 1 (Tt 22) none (some (Tt 24)))<|Mo 0 25<| .nil)) (.skip) (some (2,[1,8,9,10,11,12,13,14,15,16,17,18,19,20,21,22,23,24,25]))))) (.seq (.ops (Mo 26 0<|Mo 4 26<| .nil)) (.ret))))⟩
theorem W1X:chkFunc pg 89 rf89=true:=by kernel_rfl
def rf90:RFunc:=⟨19,[.t 4], .seq (.ops (Xn 4 0<| .nil)) (.seq (.seq (.ops (Mo 6 0<|Xl 7 6<|Xn 8 0<| .nil)) (.block 0 (.loop 1 [4,5,6,9,10,11,12,13,14,15,16,17,18] (.seq (.ops (Xb 9 8 7<| .nil)) (.seq (.cond (Tt 9) (.skip) (.exit 0) none) (.seq (.block 1 (.seq (.ops (Mo 10 8<|Mo 5 10<| .nil)) (.seq (.ops (Mo 11 1<|Mo 12 0<|Mo 13 5<|Xi 14 1 12 13<|Dd 15 Jj 14<|Oo 16 (Ce (Tt 11) (Tt 15))<| .nil)) (.cond (Tt 16) (.seq (.ops (Mo 17 5<|Mo 4 17<| .nil)) (.ret)) (.skip) none)))) (.ops (Xp 18 8 1<|Mo 8 18<| .nil)))))))) (.seq (.ops (Oo 4 (.mov (.c (.c (.int .i64 (-1)))))<| .nil)) (.ret)))⟩
theorem W1Y:chkFunc pg 90 rf90=true:=by kernel_rfl
def rf91:RFunc:=⟨19,[.t 4], .seq (.ops (Xn 4 0<| .nil)) (.seq (.seq (.ops (Mo 6 0<|Xl 7 6<|Xn 8 0<| .nil)) (.block 0 (.loop 1 [4,5,6,9,10,11,12,13,14,15,16,17,18] (.seq (.ops (Xb 9 8 7<| .nil)) (.seq (.cond (Tt 9) (.skip) (.exit 0) none) (.seq (.block 1 (.seq (.ops (Mo 10 8<|Mo 5 10<| .nil)) (.seq (.ops (Mo 11 1<|Mo 12 0<|Mo 13 5<|Xi 14 1 12 13<|Dd 15 Jj 14<|Oo 16 (.callV (Tt 11) Ob' [(Tt 15)])<| .nil)) (.cond (Tt 16) (.seq (.ops (Mo 17 5<|Mo 4 17<| .nil)) (.ret)) (.skip) none)))) (.ops (Xp 18 8 1<|Mo 8 18<| .nil)))))))) (.seq (.ops (Oo 4 (.mov (.c (.c (.int .i64 (-1)))))<| .nil)) (.ret)))⟩
theorem W1Z:chkFunc pg 91 rf91=true:=by kernel_rfl
def rf92:RFunc:=⟨147,[.t 6], .seq (.ops (X0 6<| .nil)) (.seq (.ops (Xn 7 0<| .nil)) (.seq (.seq (.ops (Mo 22 1<|Xl 23 22<|Xn 24 0<| .nil)) (.block 0 (.loop 1 [6,9,25,26,27,28,29,30,31,32] (.seq (.ops (Xb 25 24 23<| .nil)) (.seq (.cond (Tt 25) (.skip) (.exit 0) none) (.seq (.block 1 (.seq (.ops (Xi 26 1 22 24<|Dd 27 Jj 26<|Mo 9 27<| .nil)) (.ops (Mo 28 7<|Mo 29 9<|Xp 30 29 1<|Oo 31 (.mm true .i64 (Tt 28) (Tt 30))<|Mo 7 31<| .nil)))) (.ops (Xp 32 24 1<|Mo 24 32<| .nil)))))))) (.seq (.ops (Mo 33 7<|Oo 34 (.mkS 1 [(.bool false)] (Tt 33))<|Mo 10 34<| .nil)) (.seq (.seq (.ops (Mo 35 0<|Xl 36 35<|Xn 37 0<| .nil)) (.block 2 (.loop 2 [6,9,11,12,14,22,23,24,25,26,27,28,29,30,31,32,33,34,38,39,40,41,42,43,44,45,46,47,48,49,50,51,52,53,54,55,56,57,58,59,60,61,62,63,64,65,66,67,68,69,70,71,72,73] (.seq (.ops (Xb 38 37 36<| .nil)) (.seq (.cond (Tt 38) (.skip) (.exit 2) none) (.seq (.block 3 (.seq (.ops (Mo 39 37<|Xi 40 1 35 37<|Dd 41 .c 40<|Mo 11 39<|Mo 12 41<| .nil)) (.seq (.ops (Mo 42 12<|Xl 43 42<|Xn 44 0<| .nil)) (.block 4 (.loop 3 [12,14,38,39,40,41,45,46,47,48,49,50,51,52,53,54,55,56,57,58,59,60,61,62,63,64,65,66,67,68,69,70,71,72] (.seq (.ops (Xb 45 44 43<| .nil)) (.seq (.cond (Tt 45) (.skip) (.exit 4) none) (.seq (.block 5 (.seq (.ops (Xi 46 1 42 44<|Dd 47 Jj 46<|Mo 14 47<| .nil)) (.dops [0,1,2,3,5,6,7,8,4,9,10,11,12,13,14,15,17,18,19,16,20,21,22,23,24] [48,49,50,51,52,53,54,55,56,57,58,59,60,61,62,63,64,65,66,67,68,69,70,71] [] (Mo 48 10<|Mo 49 1<|Mo 50 11<|Xi 51 1 49 50<|Mo 53 10<|Mo 54 1<|Mo 55 11<|Xi 56 1 54 55<|Dd 52 Jj 51<|Dd 57 Jj 56<|Xi 58 1 53 57<|Dd 59 .bool 58<|Mo 60 59<| .logic false 60 (Mo 61 1<|Mo 62 11<|Xi 63 1 61 62<|Mo 65 1<|Mo 66 14<|Xi 67 1 65 66<|Dd 64 Jj 63<|Dd 68 Jj 67<|Oo 69 (Ce (Tt 64) (Tt 68))<| .nil) (Tt 69) 70<|Xi 71 1 48 52<| .st none 1 (Tt 71) (Tt 70)<| .nil)))) (.ops (Xp 72 44 1<|Mo 44 72<| .nil)))))))))) (.ops (Xp 73 37 1<|Mo 37 73<| .nil)))))))) (.seq (.seq (.ops (Mo 74 2<|Xl 75 74<|Xn 76 0<| .nil)) (.block 6 (.loop 4 [2,6,9,11,12,14,16,17,18,19,22,23,24,25,26,27,28,29,30,31,32,33,34,35,36,37,38,39,40,41,42,43,44,45,46,47,48,49,50,51,52,53,54,55,56,57,58,59,60,61,62,63,64,65,66,67,68,69,70,71,72,73,77,78,79,80,81,82,83,84,85,86,87,88,89,90,91,92,93,94,95,96,97,98,99,100,101,102,103,104,105,106,107,108,109,110,111,112,113,114,115,116,117,118,119,120,121,122,123,124,125,126] (.seq (.ops (Xb 77 76 75<| .nil)) (.seq (.cond (Tt 77) (.skip) (.exit 6) none) (.seq (.block 7 (.seq (.ops (Xi 78 1 74 76<|Dd 79 .c 78<|Mo 16 79<| .nil)) (.seq (.ops (Mo 80 7<|Oo 81 (.mkS 1 [(.bool false)] (Tt 80))<|Mo 17 81<| .nil)) (.seq (.seq (.ops (Mo 82 0<|Xl 83 82<|Xn 84 0<| .nil)) (.block 8 (.loop 5 [18,77,78,79,80,81,82,85,86,87,88,89,90,91,92,93,94,95,96,97,98,99,100,101,102,103,104,105,106] (.seq (.ops (Xb 85 84 83<| .nil)) (.seq (.cond (Tt 85) (.skip) (.exit 8) none) (.seq (.block 9 (.seq (.ops (Mo 86 84<|Mo 18 86<| .nil)) (.dops [0,1,2,3,5,6,7,8,4,9,10,11,12,13,14,15,16,17,18,19] [87,88,89,90,91,92,93,94,95,96,97,98,99,100,101,102,103,104,105] [] (Mo 87 17<|Mo 88 1<|Mo 89 18<|Xi 90 1 88 89<|Mo 92 17<|Mo 93 1<|Mo 94 18<|Xi 95 1 93 94<|Dd 91 Jj 90<|Dd 96 Jj 95<|Xi 97 1 92 96<|Dd 98 .bool 97<|Mo 99 98<| .logic false 99 (Mo 100 16<|Mo 101 18<|Xi 102 1 100 101<|Dd 103 .bool 102<| .nil) (Tt 103) 104<|Xi 105 1 87 91<| .st none 1 (Tt 105) (Tt 104)<| .nil)))) (.ops (Xp 106 84 1<|Mo 84 106<| .nil)))))))) (.seq (.ops (Mo 107 10<|Xl 108 107<|Xn 109 0<| .nil)) (.block 10 (.loop 6 [16,18,19,77,78,79,80,81,82,83,84,85,86,87,88,89,90,91,92,93,94,95,96,97,98,99,100,101,102,103,104,105,106,107,110,111,112,113,114,115,116,117,118,119,120,121,122,123,124,125] (.seq (.ops (Xb 110 109 108<| .nil)) (.seq (.cond (Tt 110) (.skip) (.exit 10) none) (.seq (.block 11 (.seq (.ops (Mo 111 109<|Mo 19 111<| .nil)) (.ops (Mo 112 10<|Mo 113 19<|Mo 114 10<|Mo 115 19<|Xi 116 1 114 115<|Dd 117 .bool 116<|Mo 118 117<| .logic true 118 (Mo 119 17<|Mo 120 19<|Xi 121 1 119 120<|Dd 122 .bool 121<| .nil) (Tt 122) 123<|Xi 124 1 112 113<| .st none 1 (Tt 124) (Tt 123)<| .nil)))) (.ops (Xp 125 109 1<|Mo 109 125<| .nil)))))))))))) (.ops (Xp 126 76 1<|Mo 76 126<| .nil)))))))) (.seq (.ops (Mo 127 0<|Xl 128 127<|Oo 129 (.mkS 1 [(.bool false)] (Tt 128))<|Mo 20 129<| .nil)) (.seq (.seq (.ops (Mo 130 0<|Xl 131 130<|Xn 132 0<| .nil)) (.block 12 (.loop 7 [0,2,6,7,9,11,12,14,16,17,18,19,21,22,23,24,25,26,27,28,29,30,31,32,33,34,35,36,37,38,39,40,41,42,43,44,45,46,47,48,49,50,51,52,53,54,55,56,57,58,59,60,61,62,63,64,65,66,67,68,69,70,71,72,73,74,75,76,77,78,79,80,81,82,83,84,85,86,87,88,89,90,91,92,93,94,95,96,97,98,99,100,101,102,103,104,105,106,107,108,109,110,111,112,113,114,115,116,117,118,119,120,121,122,123,124,125,126,127,128,129,130,133,134,135,136,137,138,139,140,141,142,143,144,145] (.seq (.ops (Xb 133 132 131<| .nil)) (.seq (.cond (Tt 133) (.skip) (.exit 12) none) (.seq (.block 13 (.seq (.ops (Mo 134 132<|Mo 21 134<| .nil)) (.ops (Mo 135 20<|Mo 136 21<|Mo 137 10<|Mo 138 1<|Mo 139 21<|Xi 140 1 138 139<|Dd 141 Jj 140<|Xi 142 1 137 141<|Dd 143 .bool 142<|Xi 144 1 135 136<| .st none 1 (Tt 144) (Tt 143)<| .nil)))) (.ops (Xp 145 132 1<|Mo 132 145<| .nil)))))))) (.seq (.ops (Mo 146 20<|Mo 6 146<| .nil)) (.ret)))))))))⟩
theorem X1a:chkFunc pg 92 rf92=true:=by kernel_rfl
def rf93:RFunc:=⟨39,[.t 2], .seq (.ops (X0 2<| .nil)) (.seq (.dops [0,1,2,4,5,8,9,7,10,3,6,11,12,13] [3,5,6,7,8,9,10,11,12,13,14,15,16,17] [] (Mo 5 0<|Mo 6 0<|Xl 7 6<|Mo 9 0<|Xl 10 9<|Mo 13 0<|Xl 14 13<|Oo 12 (.lit 1 1 [(.int .i64 0)] [(0,1,(.c (.c (.int .i64 (-1)))))])<|X2 15 95 Oc' 12 14<|Oo 8 (.mkS 1 [(.int .i64 0)] (Tt 7))<|Oo 11 (.mkS 1 [(.int .i64 0)] (Tt 10))<|Oo 16 (.build [.nilSlice, .nilSlice, .nilSlice, .nilSlice, .nilSlice,(.int .i64 0),(.int .i64 0)] [(0,1,(Tt 5)),(1,1,(Tt 8)),(2,1,(Tt 11)),(3,1,(Tt 15))])<|Oo 17 (.box 7 (Tt 16))<|Mo 3 17<| .nil)) (.seq (.seq (.ops (Mo 18 0<|Xl 19 18<|Xn 20 0<| .nil)) (.block 0 (.loop 1 [0,2,4,5,6,7,8,9,10,11,12,13,14,15,16,17,18,21,22,23,24,25,26,27,28,29,30,31,32,33,34] (.seq (.ops (Xb 21 20 19<| .nil)) (.seq (.cond (Tt 21) (.skip) (.exit 0) none) (.seq (.block 1 (.seq (.ops (Mo 22 20<|Mo 4 22<| .nil)) (.seq (.ops (Mo 23 3<|Xk 24 23<|Xf 25 1 24<|Dd 26 .c 25<|Mo 27 4<|Xi 28 1 26 27<|Dd 29 Jj 28<|Oo 30 (Ce (Tt 29) (Nn 0))<| .nil)) (.cond (Tt 30) (.ops (Mo 31 3<|Mo 32 4<|X2 33 109 .any 31 32<| .nil)) (.skip) (some (2,[4,21,22,23,24,25,26,27,28,29,30,31,32,33])))))) (.ops (Xp 34 20 1<|Mo 20 34<| .nil)))))))) (.seq (.ops (Mo 35 3<|Xk 36 35<|Xf 37 3 36<|Dd 38 .c 37<|Mo 2 38<| .nil)) (.ret))))⟩
theorem X1b:chkFunc pg 93 rf93=true:=by kernel_rfl
def rf95:RFunc:=⟨48,[.t 4], .seq (.ops (X0 4<| .nil)) (.seq (.seq (.ops (Mo 9 1<|Oo 10 (Cl (Tt 9) (Nn 0))<| .nil)) (.cond (Tt 10) (.stuck) (.skip) (some (1,[4,9,10,11])))) (.seq (.ops (Mo 13 0<|Xl 14 13<|Oo 15 (.conv .i64 .u64 (Tt 14))<|Mo 16 1<|Oo 17 (.conv .i64 .u64 (Tt 16))<|X2 18 110 .any 15 17<|Mo 12 18<|Oo 19 (.ext (.one (.int .u64)) (Tt 12) 0)<|Oo 20 (.ext (.one (.int .u64)) (Tt 12) 1)<|Mo 5 19<|Mo 6 20<| .nil)) (.seq (.seq (.ops (Mo 21 5<|Oo 22 (.cmp .gtr .u64 (Tt 21) (.c (.c (.int .u64 0))))<|Mo 23 22<| .logic false 23 (Mo 24 6<|Oo 25 (.cmp .gtr .u64 (Tt 24) (.c (.c (.int .u64 9223372036854775807))))<| .nil) (Tt 25) 26<| .nil)) (.cond (Tt 26) (.stuck) (.skip) (some (2,[1,5,12,13,14,15,16,17,18,19,20,21,22,23,24,25,26,27])))) (.seq (.ops (Mo 28 6<|Oo 29 (.conv .u64 .i64 (Tt 28))<|Oo 30 (.mkS 1 [(.int .i64 0)] (Tt 29))<|Mo 7 30<| .nil)) (.seq (.ops (Mo 31 7<|Mo 32 0<|Oo 33 (.copy 1 (Tt 31) (Tt 32))<|Mo 8 33<| .nil)) (.seq (.block 0 (.loop 3 [0,6,28,29,30,31,32,33,34,35,36,37,38,39,40,41,42,43,44,45,46] (.seq (.seq (.ops (Mo 34 8<|Mo 35 7<|Xl 36 35<|Xb 37 34 36<| .nil)) (.cond (Tt 37) (.skip) (.exit 0) none)) (.block 1 (.dops [0,1,2,3,4,5,6,7,8,9] [38,39,40,41,42,43,44,45,46] [8] (Mo 38 8<|Mo 39 7<|Mo 40 8<|Oo 41 (.sub 1 (Tt 39) (some (Tt 40)) none)<|Mo 42 7<|Mo 43 8<|Oo 44 (.sub 1 (Tt 42) none (some (Tt 43)))<|Oo 45 (.copy 1 (Tt 41) (Tt 44))<|Oo 46 (.ar .add .i64 (Tt 38) (Tt 45))<|Mo 8 46<| .nil)))))) (.seq (.ops (Mo 47 7<|Mo 4 47<| .nil)) (.ret))))))))⟩
theorem X1c:chkFunc pg 95 rf95=true:=by kernel_rfl
def rf97:RFunc:=⟨4,[.t 2], .seq (.ops (Xn 2 0<| .nil)) (.seq (.ops (Mo 3 0<|Mo 2 3<| .nil)) (.ret))⟩
theorem X1d:chkFunc pg 97 rf97=true:=by kernel_rfl
def rf98:RFunc:=⟨3,[.t 2], .seq (.ops (Oo 2 (.mov (.c (.c (.bool false))))<| .nil)) (.seq (.ops (Oo 2 (.mov (.c (.c (.bool true))))<| .nil)) (.ret))⟩
theorem X1e:chkFunc pg 98 rf98=true:=by kernel_rfl
def rf99:RFunc:=⟨97,[.t 10, .t 11], .seq (.ops (X0 10<|Oo 11 (.mov (.c (.c (.bool false))))<| .nil)) (.seq (.ops (Oo 20 (.lit 1 1 [(.int .i64 0)] [(0,1,(.c (.c (.int .i64 (-2)))))])<|Mo 21 0<|Xl 22 21<|X2 23 95 Oc' 20 22<|Oo 12 (.new [.nilSlice])<| .st none 1 (Tt 12) (Tt 23)<| .nil)) (.seq (.ops (X0 13<| .nil)) (.seq (.ops (Oo 24 (.mkF 111 [(Tt 12)])<|Mo 14 24<| .nil)) (.seq (.seq (.ops (Mo 25 1<|Xl 26 25<|Xn 27 0<| .nil)) (.block 0 (.loop 1 [1,10,11,16,20,21,22,23,24,28,29,30,31,32,33,34,35,36,37,38,39,40,41,42,43,44,45,46,47,48,49,50,51,52] (.seq (.ops (Xb 28 27 26<| .nil)) (.seq (.cond (Tt 28) (.skip) (.exit 0) none) (.seq (.block 1 (.seq (.ops (Xi 29 1 25 27<|Dd 30 Jj 29<|Mo 16 30<| .nil)) (.seq (.seq (.ops (Mo 31 2<|Oo 32 (Ce (Tt 31) (Nn 0))<|Mo 33 32<| .logic true 33 (Mo 34 4<|Mo 35 16<|Oo 36 (.callV (Tt 34) Ob' [(Tt 35)])<| .nil) (Tt 36) 37<| .nil)) (.cond (Tt 37) (.seq (.ops (Mo 38 16<|Oo 39 (.lit 1 1 [(.int .i64 0)] [(0,1,(Tt 38))])<|Mo 10 39<|Oo 11 (.mov (.c (.c (.bool true))))<| .nil)) (.ret)) (.skip) none)) (.seq (.ops (Dd 40 .c 12<|Mo 41 16<|Xi 42 1 40 41<|Dd 43 Jj 42<|Oo 44 (Ce (Tt 43) (.c (.c (.int .i64 (-2)))))<| .nil)) (.cond (Tt 44) (.seq (.ops (Dd 45 .c 12<|Mo 46 16<|Xi 47 1 45 46<| .st none 1 (Tt 47) (.c (.c (.int .i64 (-1))))<| .nil)) (.ops (Mo 48 13<|Mo 49 16<|Oo 50 (.lit 1 1 [(.int .i64 0)] [(0,1,(Tt 49))])<|Xa 51 1 48 50<|Mo 13 51<| .nil))) (.skip) (some (2,[16,28,29,30,31,32,33,34,35,36,37,40,41,42,43,44,45,46,47,48,49,50,51]))))))) (.ops (Xp 52 27 1<|Mo 27 52<| .nil)))))))) (.seq (.block 2 (.loop 3 [1,2,10,11,16,17,19,20,21,22,23,24,25,26,27,28,29,30,31,32,33,34,35,36,37,38,39,40,41,42,43,44,45,46,47,48,49,50,51,52,53,54,55,56,57,58,59,60,61,62,63,64,65,66,67,68,69,70,71,72,73,74,75,76,77,78,79,80,81,82,83,84,85,86,87,88,89,90,91,92,93,94,95,96] (.seq (.seq (.ops (Mo 53 13<|Xl 54 53<|Oo 55 (.cmp .gtr .i64 (Tt 54) (Nn 0))<| .nil)) (.cond (Tt 55) (.skip) (.exit 2) none)) (.block 3 (.seq (.ops (Mo 56 13<|Oo 57 (.idx 1 (Tt 56) (Nn 0))<|Dd 58 Jj 57<|Mo 17 58<| .nil)) (.seq (.ops (Mo 59 13<|Oo 60 (.sub 1 (Tt 59) (some (Nn 1)) none)<|Mo 13 60<| .nil)) (.seq (.ops (Mo 61 0<|Mo 62 17<|Xi 63 1 61 62<|Dd 64 .c 63<|Xl 65 64<|Xn 66 0<| .nil)) (.block 4 (.loop 4 [10,11,19,53,54,55,56,57,58,59,60,61,62,63,67,68,69,70,71,72,73,74,75,76,77,78,79,80,81,82,83,84,85,86,87,88,89,90,91,92,93,94,95,96] (.seq (.ops (Xb 67 66 65<| .nil)) (.seq (.cond (Tt 67) (.skip) (.exit 4) none) (.seq (.block 5 (.seq (.ops (Xi 68 1 64 66<|Dd 69 Jj 68<|Mo 19 69<| .nil)) (.seq (.seq (.ops (Mo 70 3<|Mo 71 19<|Oo 72 (.callV (Tt 70) Ob' [(Tt 71)])<|Xt 73 72<| .nil)) (.cond (Tt 73) (.exit 5) (.skip) none)) (.seq (.seq (.ops (Mo 74 4<|Mo 75 19<|Oo 76 (.callV (Tt 74) Ob' [(Tt 75)])<| .nil)) (.cond (Tt 76) (.seq (.ops (Mo 77 14<|Mo 78 17<|Oo 79 (.callV (Tt 77) Oc' [(Tt 78)])<|Mo 80 19<|Oo 81 (.lit 1 1 [(.int .i64 0)] [(0,1,(Tt 80))])<|Xa 82 1 79 81<|Mo 10 82<|Oo 11 (.mov (.c (.c (.bool true))))<| .nil)) (.ret)) (.skip) none)) (.seq (.ops (Dd 83 .c 12<|Mo 84 19<|Xi 85 1 83 84<|Dd 86 Jj 85<|Oo 87 (Ce (Tt 86) (.c (.c (.int .i64 (-2)))))<| .nil)) (.cond (Tt 87) (.seq (.ops (Dd 88 .c 12<|Mo 89 19<|Mo 90 17<|Xi 91 1 88 89<| .st none 1 (Tt 91) (Tt 90)<| .nil)) (.ops (Mo 92 13<|Mo 93 19<|Oo 94 (.lit 1 1 [(.int .i64 0)] [(0,1,(Tt 93))])<|Xa 95 1 92 94<|Mo 13 95<| .nil))) (.skip) (some (5,[19,67,68,69,70,71,72,73,74,75,76,83,84,85,86,87,88,89,90,91,92,93,94,95])))))))) (.ops (Xp 96 66 1<|Mo 66 96<| .nil)))))))))))))) (.seq (.ops (X0 10<|Oo 11 (.mov (.c (.c (.bool false))))<| .nil)) (.ret)))))))⟩
theorem X1f:chkFunc pg 99 rf99=true:=by kernel_rfl
def rf100:RFunc:=⟨14,[.t 4], .seq (.ops (Oo 4 (.mov (.c (.c (.bool false))))<| .nil)) (.seq (.ops (Dd 5 .c 1<|Mo 6 0<|Xi 7 1 5 6<|Dd 8 .bool 7<|Mo 9 8<| .logic true 9 (Dd 10 .c 2<|Mo 11 0<|Oo 12 (.callV (Tt 10) Ob' [(Tt 11)])<| .nil) (Tt 12) 13<|Mo 4 13<| .nil)) (.ret))⟩
theorem K1o:chkFunc pg 100 rf100=true:=by kernel_rfl
def rf101:RFunc:=⟨14,[.t 4], .seq (.ops (Oo 4 (.mov (.c (.c (.bool false))))<| .nil)) (.seq (.dops [1,0,2,3,4,5,6,7,8,9] [4,5,6,7,8,9,10,11,12,13] [] (Mo 6 0<|Dd 5 .c 1<|Xi 7 1 5 6<|Dd 8 Jj 7<|Dd 9 .c 1<|Dd 10 Jj 2<|Xi 11 1 9 10<|Dd 12 Jj 11<|Oo 13 (Ce (Tt 8) (Tt 12))<|Mo 4 13<| .nil)) (.ret))⟩
theorem K1p:chkFunc pg 101 rf101=true:=by kernel_rfl
def rf102:RFunc:=⟨8,[.t 3], .seq (.ops (Oo 3 (.mov (.c (.c (.bool false))))<| .nil)) (.seq (.ops (Dd 4 .c 1<|Mo 5 0<|Xi 6 1 4 5<|Dd 7 .bool 6<|Mo 3 7<| .nil)) (.ret))⟩
theorem K1q:chkFunc pg 102 rf102=true:=by kernel_rfl
def rf103:RFunc:=⟨8,[.t 3], .seq (.ops (Oo 3 (.mov (.c (.c (.bool false))))<| .nil)) (.seq (.ops (Dd 4 .c 1<|Mo 5 0<|Xi 6 1 4 5<|Dd 7 .bool 6<|Mo 3 7<| .nil)) (.ret))⟩
theorem K1r:chkFunc pg 103 rf103=true:=by kernel_rfl
def rf104:RFunc:=⟨7,[.t 3], .seq (.ops (Oo 3 (.mov (.c (.c (.bool false))))<| .nil)) (.seq (.ops (Mo 4 0<|Dd 5 Jj 1<|Oo 6 (Ce (Tt 4) (Tt 5))<|Mo 3 6<| .nil)) (.ret))⟩
theorem K1s:chkFunc pg 104 rf104=true:=by kernel_rfl
def rf105:RFunc:=⟨13,[.cells 2 2, .t 3], .seq (.ops (.lbox 2 1 (Tt 0)<| .lnew 2 [.nilSlice, .nilSlice]<|Xn 3 0<| .nil)) (.seq (.seq (.ops (Oo 5 (.ldsL 1 [.c, .c] (Tt 1))<|X1 6 84 Oj 5<|Mo 4 6<| .nil)) (.seq (.ops (Mo 7 4<|Oo 8 (Cn' (Tt 7) (Nn 0))<| .nil)) (.cond (Tt 8) (.seq (.ops (Oo 9 (.build [.nilSlice, .nilSlice] [])<|Mo 10 4<| .st (some 2) 2 (Tt 2) (Tt 9)<|Mo 3 10<| .nil)) (.ret)) (.skip) none))) (.seq (.ops (Oo 11 (.ldsL 1 [.c, .c] (Tt 1))<|Oo 12 (.call 113 (.agg [.c, .c]) [(Tt 11)])<| .st (some 2) 2 (Tt 2) (Tt 12)<|Xn 3 0<| .nil)) (.ret)))⟩
theorem K1t:chkFunc pg 105 rf105=true:=by kernel_rfl
def rf106:RFunc:=⟨6,[.t 2], .seq (.ops (Oo 2 (.mov (.c (.c (.bool false))))<| .nil)) (.seq (.ops (Mo 3 0<|Oo 4 (.call 107 Ob' [(Tt 3),(Nn 0),(Nn 4095)])<|Xt 5 4<|Mo 2 5<| .nil)) (.ret))⟩
theorem K1u:chkFunc pg 106 rf106=true:=by kernel_rfl
def rf107:RFunc:=⟨15,[.t 6], .seq (.ops (Oo 6 (.mov (.c (.c (.bool false))))<| .nil)) (.seq (.ops (Mo 7 1<|Mo 8 0<|Oo 9 (.cmp .leq .i64 (Tt 7) (Tt 8))<|Mo 10 9<| .logic true 10 (Mo 11 0<|Mo 12 2<|Oo 13 (.cmp .leq .i64 (Tt 11) (Tt 12))<| .nil) (Tt 13) 14<|Mo 6 14<| .nil)) (.ret))⟩
theorem K1v:chkFunc pg 107 rf107=true:=by kernel_rfl
def rf108:RFunc:=⟨7,[.t 4], .seq (.ops (Xn 4 0<| .nil)) (.seq (.seq (.ops (Mo 5 0<| .nil)) (.cond (Tt 5) (.seq (.ops (Mo 6 1<|Mo 4 6<| .nil)) (.ret)) (.skip) none)) (.seq (.ops (Xn 4 0<| .nil)) (.ret)))⟩
theorem K1w:chkFunc pg 108 rf108=true:=by kernel_rfl
def rf109:RFunc:=⟨178,[], .seq (.ops (Mo 8 0<|Xk 9 8<|Xf 10 5 9<|Dd 11 Jj 10<|Xp 12 11 1<|Xk 13 8<|Xf 14 5 13<| .st none 1 (Tt 14) (Tt 12)<| .nil)) (.seq (.dops [0,1,2,4,5,6,7,9,10,11,12,14,15,16,3,8,13,17,18,19,20,21] [15,16,17,18,19,20,21,22,23,24,25,26,27,28,29,30,31,32,33,34] [] (Mo 15 0<|Xk 16 15<|Xf 17 1 16<|Mo 19 1<|Mo 20 0<|Xk 21 20<|Xf 22 2 21<|Mo 24 1<|Mo 25 0<|Xk 26 25<|Xf 27 5 26<|Mo 29 0<|Xk 30 29<|Xf 31 5 30<|Dd 18 .c 17<|Dd 23 .c 22<|Dd 28 Jj 27<|Dd 32 Jj 31<|Xi 33 1 18 19<| .st none 1 (Tt 33) (Tt 28)<|Xi 34 1 23 24<| .st none 1 (Tt 34) (Tt 32)<| .nil)) (.seq (.ops (Mo 35 0<|Mo 36 0<|Xk 37 36<|Xf 38 4 37<|Dd 39 .c 38<|Mo 40 1<|Oo 41 (.lit 1 1 [(.int .i64 0)] [(0,1,(Tt 40))])<|Xa 42 1 39 41<|Xk 43 35<|Xf 44 4 43<| .st none 1 (Tt 44) (Tt 42)<| .nil)) (.seq (.seq (.ops (Mo 45 0<|Xk 46 45<|Xf 47 0 46<|Dd 48 .c 47<|Mo 49 1<|Xi 50 1 48 49<|Dd 51 .c 50<|Xl 52 51<|Xn 53 0<| .nil)) (.block 0 (.loop 1 [5,8,9,10,11,12,13,14,15,16,17,18,19,20,21,22,23,24,25,26,27,28,29,30,31,32,33,34,35,36,37,38,39,40,41,42,43,44,45,46,47,48,49,50,54,55,56,57,58,59,60,61,62,63,64,65,66,67,68,69,70,71,72,73,74,75,76,77,78,79,80,81,82,83,84,85,86,87,88,89,90,91,92,93,94,95,96,97,98,99,100,101,102,103,104,105,106,107,108,109,110,111,112,113,114,115,116,117,118,119,120] (.seq (.ops (Xb 54 53 52<| .nil)) (.seq (.cond (Tt 54) (.skip) (.exit 0) none) (.seq (.block 1 (.seq (.ops (Xi 55 1 51 53<|Dd 56 Jj 55<|Mo 5 56<| .nil)) (.block 2 (.seq (.ops (Mo 58 0<|Xk 59 58<|Xf 60 1 59<|Dd 61 .c 60<|Mo 62 5<|Xi 63 1 61 62<|Dd 64 Jj 63<|Oo 65 (Ce (Tt 64) (Nn 0))<|Mo 57 65<| .nil)) (.cond (Tt 57) (.seq (.ops (Mo 66 0<|Mo 67 5<|X2 68 109 .any 66 67<| .nil)) (.dops [0,1,2,4,5,6,7,9,12,13,14,16,3,8,10,11,15,17,18,19,20,21] [69,70,71,72,73,74,75,76,77,78,79,80,81,82,83,84,85,86,87,88,89] [] (Mo 69 0<|Xk 70 69<|Xf 71 2 70<|Mo 73 1<|Mo 74 0<|Xk 75 74<|Xf 76 2 75<|Mo 78 1<|Mo 81 0<|Xk 82 81<|Xf 83 2 82<|Mo 85 5<|Dd 72 .c 71<|Dd 77 .c 76<|Xi 79 1 77 78<|Dd 80 Jj 79<|Dd 84 .c 83<|Xi 86 1 84 85<|Dd 87 Jj 86<|Oo 88 (.mm false .i64 (Tt 80) (Tt 87))<|Xi 89 1 72 73<| .st none 1 (Tt 89) (Tt 88)<| .nil))) (.seq (.ops (Mo 91 0<|Xk 92 91<|Xf 93 3 92<|Dd 94 .c 93<|Mo 95 5<|Xi 96 1 94 95<|Dd 97 Jj 96<|Oo 98 (Cl (Tt 97) (Nn 0))<|Mo 90 98<| .nil)) (.cond (Tt 90) (.dops [0,1,2,4,5,6,7,9,12,13,14,16,3,8,10,11,15,17,18,19,20,21] [99,100,101,102,103,104,105,106,107,108,109,110,111,112,113,114,115,116,117,118,119] [] (Mo 99 0<|Xk 100 99<|Xf 101 2 100<|Mo 103 1<|Mo 104 0<|Xk 105 104<|Xf 106 2 105<|Mo 108 1<|Mo 111 0<|Xk 112 111<|Xf 113 1 112<|Mo 115 5<|Dd 102 .c 101<|Dd 107 .c 106<|Xi 109 1 107 108<|Dd 110 Jj 109<|Dd 114 .c 113<|Xi 116 1 114 115<|Dd 117 Jj 116<|Oo 118 (.mm false .i64 (Tt 110) (Tt 117))<|Xi 119 1 102 103<| .st none 1 (Tt 119) (Tt 118)<| .nil)) (.skip) (some (3,[5,54,55,56,57,58,59,60,61,62,63,64,65,90,91,92,93,94,95,96,97,98,99,100,101,102,103,104,105,106,107,108,109,110,111,112,113,114,115,116,117,118,119])))) (some (2,[5,54,55,56,57,58,59,60,61,62,63,64,65,66,67,68,69,70,71,72,73,74,75,76,77,78,79,80,81,82,83,84,85,86,87,88,89]))))))) (.ops (Xp 120 53 1<|Mo 53 120<| .nil)))))))) (.seq (.seq (.dops [0,1,2,4,7,8,9,11,3,5,6,10,12,13,14] [121,122,123,124,125,126,127,128,129,130,131,132,133,134,135] [] (Mo 121 0<|Xk 122 121<|Xf 123 2 122<|Mo 125 1<|Mo 128 0<|Xk 129 128<|Xf 130 1 129<|Mo 132 1<|Dd 124 .c 123<|Xi 126 1 124 125<|Dd 127 Jj 126<|Dd 131 .c 130<|Xi 133 1 131 132<|Dd 134 Jj 133<|Xb 135 127 134<| .nil)) (.cond (Tt 135) (.ret) (.skip) none)) (.seq (.block 3 (.loop 4 [5,6,7,8,9,10,11,12,13,14,15,16,17,18,19,20,21,22,23,24,25,26,27,28,29,30,31,32,33,34,35,36,37,38,39,40,41,42,43,44,45,46,47,48,49,50,51,52,53,54,55,56,57,58,59,60,61,62,63,64,65,66,67,68,69,70,71,72,73,74,75,76,77,78,79,80,81,82,83,84,85,86,87,88,89,90,91,92,93,94,95,96,97,98,99,100,101,102,103,104,105,106,107,108,109,110,111,112,113,114,115,116,117,118,119,120,121,122,123,124,125,126,127,128,129,130,131,132,133,134,135,136,137,138,139,140,141,142,143,144,145,146,147,148,149,150,151,152,153,154,155,156,157,158,159,160,161,162,163,164,165,166,167,168,169,170] (.block 4 (.seq (.ops (Mo 136 0<|Xk 137 136<|Xf 138 4 137<|Dd 139 .c 138<|Xl 140 139<|Oo 141 (.ar .sub .i64 (Tt 140) (Nn 1))<|Mo 6 141<| .nil)) (.seq (.ops (Mo 142 0<|Xk 143 142<|Xf 144 4 143<|Dd 145 .c 144<|Mo 146 6<|Xi 147 1 145 146<|Dd 148 Jj 147<|Mo 7 148<| .nil)) (.seq (.ops (Mo 149 0<|Mo 150 0<|Xk 151 150<|Xf 152 4 151<|Dd 153 .c 152<|Mo 154 6<|Oo 155 (.sub 1 (Tt 153) none (some (Tt 154)))<|Xk 156 149<|Xf 157 4 156<| .st none 1 (Tt 157) (Tt 155)<| .nil)) (.seq (.dops [0,1,2,4,5,6,7,3,8,9,10] [158,159,160,161,162,163,164,165,166,167] [] (Mo 158 0<|Xk 159 158<|Xf 160 3 159<|Mo 162 7<|Mo 163 0<|Xk 164 163<|Xf 165 6 164<|Dd 161 .c 160<|Dd 166 Jj 165<|Xi 167 1 161 162<| .st none 1 (Tt 167) (Tt 166)<| .nil)) (.seq (.ops (Mo 168 7<|Mo 169 1<|Oo 170 (Ce (Tt 168) (Tt 169))<| .nil)) (.cond (Tt 170) (.exit 3) (.skip) none))))))))) (.ops (Mo 171 0<|Xk 172 171<|Xf 173 6 172<|Dd 174 Jj 173<|Xp 175 174 1<|Xk 176 171<|Xf 177 6 176<| .st none 1 (Tt 177) (Tt 175)<| .nil)))))))⟩
theorem K1x:chkFunc pg 109 rf109=true:=by kernel_rfl
def rf110:RFunc:=⟨30,[.t 4, .t 5], .seq (.ops (Oo 4 (.mov (.c (.c (.int .u64 0))))<|Oo 5 (.mov (.c (.c (.int .u64 0))))<| .nil)) (.seq (.cond (.c (.c (.bool false))) (.seq (.ops (Mo 11 0<|Oo 12 (.conv .u64 .u32 (Tt 11))<|Mo 13 1<|Oo 14 (.conv .u64 .u32 (Tt 13))<|X2 15 114 .any 12 14<|Mo 10 15<|Oo 16 (.ext (.one (.int .u32)) (Tt 10) 0)<|Oo 17 (.ext (.one (.int .u32)) (Tt 10) 1)<|Mo 6 16<|Mo 7 17<| .nil)) (.seq (.ops (Mo 18 6<|Oo 19 (.conv .u32 .u64 (Tt 18))<|Mo 20 7<|Oo 21 (.conv .u32 .u64 (Tt 20))<|Mo 4 19<|Mo 5 21<| .nil)) (.ret))) (.skip) none) (.seq (.ops (Mo 23 0<|Mo 24 1<|X2 25 115 .any 23 24<|Mo 22 25<|Oo 26 (.ext (.one (.int .u64)) (Tt 22) 0)<|Oo 27 (.ext (.one (.int .u64)) (Tt 22) 1)<|Mo 8 26<|Mo 9 27<| .nil)) (.seq (.ops (Mo 28 8<|Mo 29 9<|Mo 4 28<|Mo 5 29<| .nil)) (.ret))))⟩
theorem K1y:chkFunc pg 110 rf110=true:=by kernel_rfl
def rf111:RFunc:=⟨18,[.t 3], .seq (.ops (X0 3<| .nil)) (.seq (.ops (X0 4<| .nil)) (.seq (.block 0 (.loop 1 [3,5,6,7,8,9,10,11,12,13,14] (.seq (.seq (.ops (Mo 5 0<|Oo 6 (.cmp .geq .i64 (Tt 5) (Nn 0))<| .nil)) (.cond (Tt 6) (.skip) (.exit 0) none)) (.seq (.block 1 (.ops (Mo 11 4<|Mo 12 0<|Oo 13 (.lit 1 1 [(.int .i64 0)] [(0,1,(Tt 12))])<|Xa 14 1 11 13<|Mo 4 14<| .nil))) (.ops (Dd 7 .c 1<|Mo 8 0<|Xi 9 1 7 8<|Dd 10 Jj 9<|Mo 0 10<| .nil)))))) (.seq (.ops (Mo 15 4<|X1 16 112 .any 15<| .nil)) (.seq (.ops (Mo 17 4<|Mo 3 17<| .nil)) (.ret)))))⟩
theorem K1z:chkFunc pg 111 rf111=true:=by kernel_rfl
def rf112:RFunc:=⟨28,[], .seq (.ops (Mo 4 0<|Xl 5 4<|Oo 6 (.ar .sub .i64 (Tt 5) (Nn 1))<|Xn 2 0<|Mo 3 6<| .nil)) (.block 0 (.loop 1 [4,5,6,7,8,9,10,11,12,13,14,15,16,17,18,19,20,21,22,23,24,25,26,27] (.seq (.seq (.ops (Mo 7 2<|Mo 8 3<|Xb 9 7 8<| .nil)) (.cond (Tt 9) (.skip) (.exit 0) none)) (.seq (.block 1 (.dops [0,1,2,3,4,5,6,8,9,10,7,11,12,13,14,15] [14,15,16,17,18,19,20,21,22,23,24,25,26,27] [] (Mo 14 0<|Mo 15 2<|Mo 16 0<|Mo 17 3<|Mo 18 0<|Mo 19 3<|Xi 20 1 18 19<|Mo 22 0<|Mo 23 2<|Xi 24 1 22 23<|Dd 21 Jj 20<|Dd 25 Jj 24<|Xi 26 1 14 15<| .st none 1 (Tt 26) (Tt 21)<|Xi 27 1 16 17<| .st none 1 (Tt 27) (Tt 25)<| .nil))) (.ops (Mo 10 2<|Xp 11 10 1<|Mo 12 3<|Oo 13 (.ar .sub .i64 (Tt 12) (Nn 1))<|Mo 2 11<|Mo 3 13<| .nil))))))⟩
theorem K1A:chkFunc pg 112 rf112=true:=by kernel_rfl
def rf113:RFunc:=⟨77,[.cells 2 2], .seq (.ops (.lbox 2 1 (Tt 0)<| .lnew 2 [.nilSlice, .nilSlice]<| .nil)) (.seq (.dops [0,1,3,4,2,5,6,7] [3,4,7,8,9,10,11,12] [] (Xf 7 0 1<|Xc 8 1 7<|Xf 10 1 1<|Xc 11 1 10<|X1 9 116 Oc' 8<|X1 12 116 Oc' 11<|Mo 3 9<|Mo 4 12<| .nil)) (.seq (.seq (.ops (Xn 5 1<| .nil)) (.block 0 (.loop 1 [0,1,7,8,9,10,11,12,13,14,15,16,17,18,19,20,21,22,23,24,25,26,27,28,29,30,31,32,33,34,35,36,37,38] (.seq (.seq (.ops (Mo 13 5<|Mo 14 4<|Xl 15 14<|Xb 16 13 15<| .nil)) (.cond (Tt 16) (.skip) (.exit 0) none)) (.seq (.block 1 (.seq (.dops [0,1,2,3,4,5,6,7,8,9,10,11,12,14,13,15,16] [19,20,21,22,23,24,25,26,27,28,29,30,31,32,33,34,35] [] (Mo 19 4<|Xl 20 19<|Mo 21 5<|Oo 22 (.dv .rem .i64 (Tt 20) (Tt 21))<|Oo 23 (Ce (Tt 22) (Nn 0))<|Mo 24 23<| .logic true 24 (Mo 25 4<|Mo 26 5<|Oo 27 (.sub 1 (Tt 25) none (some (Tt 26)))<|Mo 28 4<|Xl 29 28<|Mo 30 5<|Oo 31 (.dv .quo .i64 (Tt 29) (Tt 30))<|Mo 33 4<|X2 32 95 Oc' 27 31<|X2 34 117 Ob' 32 33<| .nil) (Tt 34) 35<| .nil)) (.cond (Tt 35) (.seq (.ops (Mo 36 4<|Mo 37 5<|Oo 38 (.sub 1 (Tt 36) none (some (Tt 37)))<|Mo 4 38<| .nil)) (.exit 0)) (.skip) none))) (.ops (Mo 17 5<|Xp 18 17 1<|Mo 5 18<| .nil))))))) (.seq (.block 2 (.loop 2 [0,1,5,6,7,8,9,10,11,12,13,14,15,16,17,18,19,20,21,22,23,24,25,26,27,28,29,30,31,32,33,34,35,36,37,38,39,40,41,42,43,44,45,46,47,48,49,50,51,52,53,54,55,56,57,58,59,60,61,62,63,64,65,66,67,68,69,70,71,72,73] (.seq (.seq (.dops [0,1,2,3,4,5,6,7,8,10,11,12,13,14,9,15,16,17] [39,40,41,42,43,44,45,46,47,48,49,50,51,52,53,54,55,56] [] (Mo 39 3<|Xl 40 39<|Oo 41 (.cmp .gtr .i64 (Tt 40) (Nn 0))<|Mo 42 41<| .logic true 42 (Mo 43 3<|Mo 44 3<|Xl 45 44<|Oo 46 (.ar .sub .i64 (Tt 45) (Nn 1))<|Xi 47 1 43 46<|Mo 49 4<|Mo 50 4<|Xl 51 50<|Oo 52 (.ar .sub .i64 (Tt 51) (Nn 1))<|Xi 53 1 49 52<|Dd 48 Jj 47<|Dd 54 Jj 53<|Oo 55 (Ce (Tt 48) (Tt 54))<| .nil) (Tt 55) 56<| .nil)) (.cond (Tt 56) (.skip) (.exit 2) none)) (.block 3 (.seq (.ops (Mo 57 4<|Xl 58 57<|Oo 59 (.ar .sub .i64 (Tt 58) (Nn 1))<|Mo 6 59<| .nil)) (.dops [0,1,2,3,4,5,6,7,10,11,12,8,9,13,14,15] [60,61,62,63,64,65,66,67,68,69,70,71,72,73] [3,4] (Mo 60 3<|Mo 61 3<|Xl 62 61<|Oo 63 (.ar .sub .i64 (Tt 62) (Nn 1))<|Oo 64 (.sub 1 (Tt 60) none (some (Tt 63)))<|Mo 65 4<|Mo 66 6<|Xi 67 1 65 66<|Mo 70 4<|Mo 71 6<|Oo 72 (.sub 1 (Tt 70) none (some (Tt 71)))<|Dd 68 Jj 67<|Oo 69 (.lit 1 1 [(.int .i64 0)] [(0,1,(Tt 68))])<|Xa 73 1 69 72<|Mo 3 64<|Mo 4 73<| .nil))))))) (.seq (.ops (Mo 74 3<|Mo 75 4<|Oo 76 (.build [.nilSlice, .nilSlice] [(0,1,(Tt 74)),(1,1,(Tt 75))])<| .st (some 2) 2 (Tt 2) (Tt 76)<| .nil)) (.ret)))))⟩
theorem K1B:chkFunc pg 113 rf113=true:=by kernel_rfl
def rf114:RFunc:=⟨17,[.t 4, .t 5], .seq (.ops (Oo 4 (.mov (.c (.c (.int .u32 0))))<|Oo 5 (.mov (.c (.c (.int .u32 0))))<| .nil)) (.seq (.ops (Mo 7 0<|Oo 8 (.conv .u32 .u64 (Tt 7))<|Mo 9 1<|Oo 10 (.conv .u32 .u64 (Tt 9))<|Oo 11 (.ar .mul .u64 (Tt 8) (Tt 10))<|Mo 6 11<| .nil)) (.seq (.ops (Mo 12 6<|Oo 13 (.sh .shr .u64 .u64 (Tt 12) (.c (.c (.int .u64 32))))<|Oo 14 (.conv .u64 .u32 (Tt 13))<|Mo 15 6<|Oo 16 (.conv .u64 .u32 (Tt 15))<|Mo 4 14<|Mo 5 16<| .nil)) (.ret)))⟩
theorem K1C:chkFunc pg 114 rf114=true:=by kernel_rfl
def rf115:RFunc:=⟨51,[.t 4, .t 5], .seq (.ops (Oo 4 (.mov (.c (.c (.int .u64 0))))<|Oo 5 (.mov (.c (.c (.int .u64 0))))<| .nil)) (.seq (.ops (Mo 14 0<|Oo 15 (.bit .and .u64 (Tt 14) (.c (.c (.int .u64 4294967295))))<|Mo 6 15<| .nil)) (.seq (.ops (Mo 16 0<|Oo 17 (.sh .shr .u64 .u64 (Tt 16) (.c (.c (.int .u64 32))))<|Mo 7 17<| .nil)) (.seq (.ops (Mo 18 1<|Oo 19 (.bit .and .u64 (Tt 18) (.c (.c (.int .u64 4294967295))))<|Mo 8 19<| .nil)) (.seq (.ops (Mo 20 1<|Oo 21 (.sh .shr .u64 .u64 (Tt 20) (.c (.c (.int .u64 32))))<|Mo 9 21<| .nil)) (.seq (.ops (Mo 22 6<|Mo 23 8<|Oo 24 (.ar .mul .u64 (Tt 22) (Tt 23))<|Mo 10 24<| .nil)) (.seq (.ops (Mo 25 7<|Mo 26 8<|Oo 27 (.ar .mul .u64 (Tt 25) (Tt 26))<|Mo 28 10<|Oo 29 (.sh .shr .u64 .u64 (Tt 28) (.c (.c (.int .u64 32))))<|Oo 30 (.ar .add .u64 (Tt 27) (Tt 29))<|Mo 11 30<| .nil)) (.seq (.ops (Mo 31 11<|Oo 32 (.bit .and .u64 (Tt 31) (.c (.c (.int .u64 4294967295))))<|Mo 12 32<| .nil)) (.seq (.ops (Mo 33 11<|Oo 34 (.sh .shr .u64 .u64 (Tt 33) (.c (.c (.int .u64 32))))<|Mo 13 34<| .nil)) (.seq (.ops (Mo 35 12<|Mo 36 6<|Mo 37 9<|Oo 38 (.ar .mul .u64 (Tt 36) (Tt 37))<|Oo 39 (.ar .add .u64 (Tt 35) (Tt 38))<|Mo 12 39<| .nil)) (.seq (.ops (Mo 40 7<|Mo 41 9<|Oo 42 (.ar .mul .u64 (Tt 40) (Tt 41))<|Mo 43 13<|Oo 44 (.ar .add .u64 (Tt 42) (Tt 43))<|Mo 45 12<|Oo 46 (.sh .shr .u64 .u64 (Tt 45) (.c (.c (.int .u64 32))))<|Oo 47 (.ar .add .u64 (Tt 44) (Tt 46))<|Mo 4 47<| .nil)) (.seq (.ops (Mo 48 0<|Mo 49 1<|Oo 50 (.ar .mul .u64 (Tt 48) (Tt 49))<|Mo 5 50<| .nil)) (.ret))))))))))))⟩
theorem K1D:chkFunc pg 115 rf115=true:=by kernel_rfl
def rf116:RFunc:=⟨8,[.t 2], .seq (.ops (X0 2<| .nil)) (.seq (.seq (.ops (Mo 3 0<|Oo 4 (.eqN .slice false (Tt 3))<| .nil)) (.cond (Tt 4) (.seq (.ops (X0 2<| .nil)) (.ret)) (.skip) none)) (.seq (.ops (Oo 5 (.lit 1 0 [] [])<|Mo 6 0<|Xa 7 1 5 6<|Mo 2 7<| .nil)) (.ret)))⟩
theorem K1E:chkFunc pg 116 rf116=true:=by kernel_rfl
def rf117:RFunc:=⟨26,[.t 4], .seq (.ops (Oo 4 (.mov (.c (.c (.bool false))))<| .nil)) (.seq (.seq (.ops (Mo 6 0<|Xl 7 6<|Mo 8 1<|Xl 9 8<|Oo 10 (Cn' (Tt 7) (Tt 9))<| .nil)) (.cond (Tt 10) (.seq (.ops (Oo 4 (.mov (.c (.c (.bool false))))<| .nil)) (.ret)) (.skip) none)) (.seq (.seq (.ops (Mo 11 0<|Xl 12 11<|Xn 13 0<| .nil)) (.block 0 (.loop 1 [4,5,6,7,8,9,10,11,14,15,16,17,18,19,20,21,22,23,24,25] (.seq (.ops (Xb 14 13 12<| .nil)) (.seq (.cond (Tt 14) (.skip) (.exit 0) none) (.seq (.block 1 (.seq (.ops (Mo 15 13<|Mo 5 15<| .nil)) (.seq (.dops [0,1,2,4,5,6,3,7,8] [16,17,18,19,20,21,22,23,24] [] (Mo 16 0<|Mo 17 5<|Xi 18 1 16 17<|Mo 20 1<|Mo 21 5<|Xi 22 1 20 21<|Dd 19 Jj 18<|Dd 23 Jj 22<|Oo 24 (Cn' (Tt 19) (Tt 23))<| .nil)) (.cond (Tt 24) (.seq (.ops (Oo 4 (.mov (.c (.c (.bool false))))<| .nil)) (.ret)) (.skip) none)))) (.ops (Xp 25 13 1<|Mo 13 25<| .nil)))))))) (.seq (.ops (Oo 4 (.mov (.c (.c (.bool true))))<| .nil)) (.ret))))⟩
theorem K1F:chkFunc pg 117 rf117=true:=by kernel_rfl
def tbl:List (FuncId×RFunc):=[(4,rf4),(8,rf8),(9,rf9),(10,rf10),(11,rf11),(12,rf12),(15,rf15),(16,rf16),(17,rf17),(18,rf18),(19,rf19),(20,rf20),(21,rf21),(22,rf22),(25,rf25),(27,rf27),(31,rf31),(35,rf35),(36,rf36),(37,rf37),(38,rf38),(39,rf39),(41,rf41),(42,rf42),(43,rf43),(44,rf44),(45,rf45),(46,rf46),(47,rf47),(48,rf48),(49,rf49),(50,rf50),(51,rf51),(52,rf52),(53,rf53),(54,rf54),(55,rf55),(56,rf56),(60,rf60),(61,rf61),(63,rf63),(65,rf65),(69,rf69),(72,rf72),(73,rf73),(74,rf74),(75,rf75),(76,rf76),(77,rf77),(81,rf81),(82,rf82),(83,rf83),(84,rf84),(85,rf85),(86,rf86),(87,rf87),(88,rf88),(89,rf89),(90,rf90),(91,rf91),(92,rf92),(93,rf93),(95,rf95),(97,rf97),(98,rf98),(99,rf99),(100,rf100),(101,rf101),(102,rf102),(103,rf103),(104,rf104),(105,rf105),(106,rf106),(107,rf107),(108,rf108),(109,rf109),(110,rf110),(111,rf111),(112,rf112),(113,rf113),(114,rf114),(115,rf115),(116,rf116),(117,rf117)]
def prog:FuncId->Option RFunc:=lookF tbl
theorem J1r:AllOK pg tbl:=⟨ok4,ok8,ok9,K1V,K1W,K1X,K1Y,K1Z,W1a,W1b,W1c,W1d,W1e,W1f,W1g,W1h,W1i,W1j,W1k,W1l,W1m,W1n,W1o,W1p,W1q,W1r,W1s,W1t,W1u,W1v,W1w,W1x,W1y,W1z,W1A,W1B,W1C,W1D,W1E,W1F,W1G,W1H,W1I,W1J,W1K,W1L,W1M,W1N,W1O,W1P,W1Q,W1R,W1S,W1T,W1U,W1V,W1W,W1X,W1Y,W1Z,X1a,X1b,X1c,X1d,X1e,X1f,K1o,K1p,K1q,K1r,K1s,K1t,K1u,K1v,K1w,K1x,K1y,K1z,K1A,K1B,K1C,K1D,K1E,K1F,trivial⟩
theorem prog_ok: ∀f rf,prog f=some rf->chkFunc pg f rf=true:=X0h J1r
noncomputable section
abbrev ks0:List K0:=[(.int .i64),(.int .i64),(.int .i64),(.int .i64)]
abbrev ks1:List K0:=[.c, .c]
abbrev ks2:List K0:=[(.int .i64), .c, .c, .c]
structure YM where
 ext:YCallT
def mdt:List (Nat×List RM):=[(3,[.sc]),(4,[.sc]),(5,[.sc]),(6,[.sc]),(7,[.sc]),(8,[.sc]),(9,[.sc]),(10,[.va, .va]),(11,[.va]),(12,[.sc]),(13,[.sc]),(14,[.sc]),(15,[.sc]),(16,[.sc]),(17,[.sc]),(18,[.sc, .sc]),(19,[.va]),(20,[.va, .va]),(21,[.sc]),(22,[.sc, .sc]),(23,[.sc, .sc]),(24,[.va]),(25,[.sc, .sc]),(26,[.va, .va, .va]),(27,[.sc, .sc]),(28,[.sc]),(29,[.va, .va]),(30,[.sc]),(31,[.sc]),(32,[.va, .va]),(33,[.va, .va]),(34,[.sc]),(35,[.va]),(36,[.sc]),(37,[.va, .va]),(38,[.sls]),(39,[.sl]),(40,[.va]),(41,[.sc]),(42,[.sc]),(43,[.sc]),(44,[.sls]),(45,[.sc]),(46,[.va]),(47,[.va, .va]),(48,[.sc]),(49,[.sc]),(50,[.sc]),(51,[.sc]),(52,[.sc]),(53,[.sc]),(54,[.sls]),(55,[.sc]),(56,[.sc]),(57,[.sc]),(58,[.sc]),(59,[.sc]),(60,[.sc]),(61,[.sc]),(62,[.va]),(63,[.sc, .sc]),(64,[.va, .va]),(65,[.sc]),(66,[.sls]),(67,[.sc]),(68,[.sc]),(69,[.sc]),(70,[.va, .va]),(71,[.sc]),(72,[.va, .va]),(73,[.va, .va, .va]),(74,[.sc]),(75,[.sc]),(76,[.sc]),(77,[.va, .va]),(78,[.va]),(79,[.sls]),(80,[.sls]),(81,[.sc]),(82,[.va]),(83,[.sls]),(84,[.sc]),(85,[.sls]),(86,[.sc]),(87,[.sc]),(88,[.sls]),(89,[.sls]),(90,[.sc]),(91,[.sc]),(92,[.sls]),(93,[.va]),(94,[]),(95,[.va]),(96,[.sls]),(97,[.sc]),(98,[.sc]),(99,[.va, .va]),(100,[.sc]),(101,[.sc]),(102,[.sc]),(103,[.sc]),(104,[.sc]),(105,[.va, .va]),(106,[.sc]),(107,[.sc]),(108,[.sc]),(109,[]),(110,[.sc, .sc]),(111,[.sls]),(112,[]),(113,[.va]),(114,[.sc, .sc]),(115,[.sc, .sc]),(116,[.sls]),(117,[.sc])]
def md(f:FuncId):List RM:=(mdt.lookup f).getD []
def youts:List Nat:=[8,16,33,37,40,46,64,72,73,82,93,94,95,99,109,112]
def yprog(f:FuncId):Option RFunc:=if youts.contains f then none else prog f
def yz(n:Nat)(l:List (Nat×Y)):List Y:=(List.range n).map fun p=>(l.lookup p).getD .poison
def yrunM(M:YM):YRunT:=Vm.yrun M.ext yprog md
def ycall(M:YM)(f:FuncId)(us:List U):YRs:=yrunM M f 0 (us.map .val) []
theorem yq{M:YM}{f:FuncId}{l:Nat}{ys:List Y}{obs:List Ob}{r:YRs}(h:Vm.ystepR M.ext yprog md (Vm.yrun M.ext yprog md) f l ys obs=r):yrunM M f l ys obs=r:=by unfold yrunM;rw[K0o];exact h
def y9(M:YM)(a_0:Int)(a_1 a_2 a_3:U):YRs:=yrunM M 9 0 ([.val (.st [.c (.int .i64 a_0),a_1,a_2,a_3])]) []
def y9_1(M:YM)(a_0:Int)(a_1 a_2 a_3:U)(k:Int):YRs:=yrunM M 9 1 (yz 44 [(1, .loc [.u (.c (.int .i64 a_0)), .u a_1, .u a_2, .u a_3]),(3, .val (.c (.int .i64 k)))]) []
def y11(M:YM)(a_0:Int)(a_1 a_2 a_3:U):YRs:=yrunM M 11 0 ([.val (.st [.c (.int .i64 a_0),a_1,a_2,a_3])]) []
def y12(M:YM)(a_0:Int)(a_1 a_2 a_3:U):YRs:=yrunM M 12 0 ([.val (.st [.c (.int .i64 a_0),a_1,a_2,a_3])]) []
def y15(M:YM)(w_0 w_1:U):YRs:=yrunM M 15 0 ([.val (.st [w_0,w_1])]) []
def y15_1(M:YM)(w_0 w_1:U)(i:Int):YRs:=yrunM M 15 1 (yz 32 [(1, .loc [.u w_0, .u w_1]),(3, .val (.c (.int .i64 i)))]) []
def y17(M:YM)(w_0 w_1:U):YRs:=yrunM M 17 0 ([.val (.st [w_0,w_1])]) []
def y19(M:YM)(w_0 w_1:U):YRs:=yrunM M 19 0 ([.val (.st [w_0,w_1])]) []
def y21(M:YM)(a_0 a_1 b_0 b_1:U):YRs:=yrunM M 21 0 ([.val (.st [a_0,a_1]), .val (.st [b_0,b_1])]) []
def y22(M:YM)(a_0:Int)(a_1 a_2 a_3 w_0 w_1 run_0 run_1:U):YRs:=yrunM M 22 0 ([.val (.st [.c (.int .i64 a_0),a_1,a_2,a_3]), .val (.st [w_0,w_1]), .val (.st [run_0,run_1])]) []
def y22_1(M:YM)(a_0:Int)(a_1 a_2 a_3 w_0 w_1 run_0 run_1:U)(n i:Int):YRs:=yrunM M 22 1 (yz 142 [(3, .loc [.u (.c (.int .i64 a_0)), .u a_1, .u a_2, .u a_3]),(4, .loc [.u w_0, .u w_1]),(5, .loc [.u run_0, .u run_1]),(10, .val (.c (.int .i64 n))),(11, .val (.c (.int .i64 i)))]) []
def y22_2(M:YM)(a_0:Int)(a_1 a_2 a_3 w_0 w_1 run_0 run_1:U)(n i:Int):YRs:=yrunM M 22 2 (yz 142 [(3, .loc [.u (.c (.int .i64 a_0)), .u a_1, .u a_2, .u a_3]),(4, .loc [.u w_0, .u w_1]),(5, .loc [.u run_0, .u run_1]),(10, .val (.c (.int .i64 n))),(12, .val (.c (.int .i64 i)))]) []
def y22_3(M:YM)(a_0:Int)(a_1 a_2 a_3 run_0 run_1:U)(k:Int):YRs:=yrunM M 22 3 (yz 142 [(3, .loc [.u (.c (.int .i64 a_0)), .u a_1, .u a_2, .u a_3]),(5, .loc [.u run_0, .u run_1]),(13, .val (.c (.int .i64 k)))]) []
def y22_4(M:YM)(a_0:Int)(a_1 a_2 a_3 run_0 run_1:U)(k:Int)(meets:Bool)(i:Int):YRs:=yrunM M 22 4 (yz 142 [(3, .loc [.u (.c (.int .i64 a_0)), .u a_1, .u a_2, .u a_3]),(5, .loc [.u run_0, .u run_1]),(13, .val (.c (.int .i64 k))),(14, .val (.c (.bool meets))),(15, .val (.c (.int .i64 i)))]) []
def y25(M:YM)(a_0:Int)(a_1 a_2 a_3:U):YRs:=yrunM M 25 0 ([.val (.st [.c (.int .i64 a_0),a_1,a_2,a_3])]) []
def y25_1(M:YM)(a_0:Int)(a_1 a_2 a_3 x49:U)(x50 x51:Int):YRs:=yrunM M 25 1 (yz 106 [(1, .loc [.u (.c (.int .i64 a_0)), .u a_1, .u a_2, .u a_3]),(49, .val x49),(50, .val (.c (.int .i64 x50))),(51, .val (.c (.int .i64 x51)))]) []
def y25_2(M:YM)(a_0:Int)(a_1 a_2 a_3 x87:U)(x88 x89:Int):YRs:=yrunM M 25 2 (yz 106 [(1, .loc [.u (.c (.int .i64 a_0)), .u a_1, .u a_2, .u a_3]),(87, .val x87),(88, .val (.c (.int .i64 x88))),(89, .val (.c (.int .i64 x89)))]) []
def y27(M:YM)(a_0:Int)(a_1 a_2 a_3:U):YRs:=yrunM M 27 0 ([.val (.st [.c (.int .i64 a_0),a_1,a_2,a_3])]) []
def y27_1(M:YM)(a_0:Int)(a_1 a_2 a_3:U)(i:Int):YRs:=yrunM M 27 1 (yz 111 [(1, .loc [.u (.c (.int .i64 a_0)), .u a_1, .u a_2, .u a_3]),(4, .val (.c (.int .i64 i)))]) []
def y27_2(M:YM)(a_0:Int)(a_1 a_2 a_3:U)(i:Int):YRs:=yrunM M 27 2 (yz 111 [(1, .loc [.u (.c (.int .i64 a_0)), .u a_1, .u a_2, .u a_3]),(6, .val (.c (.int .i64 i)))]) []
def y27_3(M:YM)(a_0:Int)(a_1 a_2 a_3:U)(i:Int):YRs:=yrunM M 27 3 (yz 111 [(1, .loc [.u (.c (.int .i64 a_0)), .u a_1, .u a_2, .u a_3]),(8, .val (.c (.int .i64 i)))]) []
def y27_4(M:YM)(a_0:Int)(a_1 a_2 a_3:U)(i k:Int):YRs:=yrunM M 27 4 (yz 111 [(1, .loc [.u (.c (.int .i64 a_0)), .u a_1, .u a_2, .u a_3]),(8, .val (.c (.int .i64 i))),(9, .val (.c (.int .i64 k)))]) []
def y31(M:YM)(a b:U):YRs:=yrunM M 31 0 ([.val a, .val b]) []
def y31_1(M:YM)(a b:U)(i:Int):YRs:=yrunM M 31 1 (yz 26 [(0, .val a),(1, .val b),(5, .val (.c (.int .i64 i)))]) []
def y36(M:YM)(a_0:Int)(a_1 a_2 a_3:U):YRs:=yrunM M 36 0 ([.val (.st [.c (.int .i64 a_0),a_1,a_2,a_3])]) []
def y38(M:YM)(l:U):YRs:=yrunM M 38 0 ([.val l]) []
def y39(M:YM)(l:U):YRs:=yrunM M 39 0 ([.val l]) []
def y39_1(M:YM)(l:U)(i:Int)(out:Sx):YRs:=yrunM M 39 1 (yz 20 [(0, .val l),(3, .h 10000),(4, .val (.c (.int .i64 i)))]) [.sl out]
def y41(M:YM)(n low high:Int):YRs:=yrunM M 41 0 ([.val (.c (.int .i64 n)), .val (.c (.int .i64 low)), .val (.c (.int .i64 high))]) []
def y42(M:YM)(w_0 w_1:U)(vat:Int):YRs:=yrunM M 42 0 ([.val (.st [w_0,w_1]), .val (.c (.int .i64 vat))]) []
def y43(M:YM)(x_0 x_1 x_2 x_3 letter:Int):YRs:=yrunM M 43 0 ([.val (.st [.c (.int .i64 x_0), .c (.int .i64 x_1), .c (.int .i64 x_2), .c (.int .i64 x_3)]), .val (.c (.int .i64 letter))]) []
def y43_1(M:YM)(letter x_0 x_1 x_2 x_3 i:Int):YRs:=yrunM M 43 1 (yz 31 [(1, .val (.c (.int .i64 letter))),(2, .loc [.u (.c (.int .i64 x_0)), .u (.c (.int .i64 x_1)), .u (.c (.int .i64 x_2)), .u (.c (.int .i64 x_3))]),(5, .val (.c (.int .i64 i)))]) []
def y44(M:YM)(next sets:U):YRs:=yrunM M 44 0 ([.val next, .val sets]) []
def y44_1(M:YM)(next sets:U)(i:Int)(vin:Sx):YRs:=yrunM M 44 1 (yz 70 [(0, .val next),(1, .val sets),(5, .h 10000),(6, .val (.c (.int .i64 i)))]) [.sl vin]
def y44_2(M:YM)(before:U)(vin all:Sx):YRs:=yrunM M 44 2 (yz 70 [(5, .h 10000),(7, .val before),(8, .h 10001)]) [.sl vin, .sl all]
def y44_2b(M:YM)(before all:U)(vin:Sx):YRs:=yrunM M 44 2 (yz 70 [(5, .h 10000),(7, .val before),(8, .val all)]) [.sl vin]
def y44_3(M:YM)(before:U)(changed:Bool)(vin all:Sx):YRs:=yrunM M 44 3 (yz 70 [(5, .h 10000),(7, .val before),(8, .h 10001),(9, .val (.c (.bool changed)))]) [.sl vin, .sl all]
def y44_3b(M:YM)(before all:U)(changed:Bool)(vin:Sx):YRs:=yrunM M 44 3 (yz 70 [(5, .h 10000),(7, .val before),(8, .val all),(9, .val (.c (.bool changed)))]) [.sl vin]
def y44_4(M:YM)(before:U)(changed:Bool)(k:Int)(vin all:Sx):YRs:=yrunM M 44 4 (yz 70 [(5, .h 10000),(7, .val before),(8, .h 10001),(9, .val (.c (.bool changed))),(10, .val (.c (.int .i64 k)))]) [.sl vin, .sl all]
def y44_4b(M:YM)(before all:U)(changed:Bool)(k:Int)(vin:Sx):YRs:=yrunM M 44 4 (yz 70 [(5, .h 10000),(7, .val before),(8, .val all),(9, .val (.c (.bool changed))),(10, .val (.c (.int .i64 k)))]) [.sl vin]
def y44_5(M:YM)(before:U)(changed:Bool)(k i:Int)(vin all now:Sx):YRs:=yrunM M 44 5 (yz 70 [(5, .h 10000),(7, .val before),(8, .h 10001),(9, .val (.c (.bool changed))),(10, .val (.c (.int .i64 k))),(11, .h 10002),(12, .val (.c (.int .i64 i)))]) [.sl vin, .sl all, .sl now]
def y44_5b(M:YM)(before all:U)(changed:Bool)(k i:Int)(vin now:Sx):YRs:=yrunM M 44 5 (yz 70 [(5, .h 10000),(7, .val before),(8, .val all),(9, .val (.c (.bool changed))),(10, .val (.c (.int .i64 k))),(11, .h 10001),(12, .val (.c (.int .i64 i)))]) [.sl vin, .sl now]
def y44_6(M:YM)(before:U)(changed:Bool)(k i:Int)(vin all now:Sx):YRs:=yrunM M 44 6 (yz 70 [(5, .h 10000),(7, .val before),(8, .h 10001),(9, .val (.c (.bool changed))),(10, .val (.c (.int .i64 k))),(11, .h 10002),(12, .val (.c (.int .i64 i)))]) [.sl vin, .sl all, .sl now]
def y44_6b(M:YM)(before all:U)(changed:Bool)(k i:Int)(vin now:Sx):YRs:=yrunM M 44 6 (yz 70 [(5, .h 10000),(7, .val before),(8, .val all),(9, .val (.c (.bool changed))),(10, .val (.c (.int .i64 k))),(11, .h 10001),(12, .val (.c (.int .i64 i)))]) [.sl vin, .sl now]
def y45(M:YM)(a_0:Int)(a_1 a_2 a_3 w_0 w_1:U):YRs:=yrunM M 45 0 ([.val (.st [.c (.int .i64 a_0),a_1,a_2,a_3]), .val (.st [w_0,w_1])]) []
def y48(M:YM)(l_0 l_1:U)(vat:Int):YRs:=yrunM M 48 0 ([.val (.st [l_0,l_1]), .val (.c (.int .i64 vat))]) []
def y49(M:YM)(l:U)(n:Int):YRs:=yrunM M 49 0 ([.val l, .val (.c (.int .i64 n))]) []
def y49_1(M:YM)(l:U)(n i:Int):YRs:=yrunM M 49 1 (yz 18 [(0, .val l),(1, .val (.c (.int .i64 n))),(5, .val (.c (.int .i64 i)))]) []
def y50(M:YM)(a_0:Int)(a_1 a_2 a_3:U)(x_0 x_1 x_2 x_3 letter:Int):YRs:=yrunM M 50 0 ([.val (.st [.c (.int .i64 a_0),a_1,a_2,a_3]), .val (.st [.c (.int .i64 x_0), .c (.int .i64 x_1), .c (.int .i64 x_2), .c (.int .i64 x_3)]), .val (.c (.int .i64 letter))]) []
def y50_1(M:YM)(letter a_0:Int)(a_1 a_2 a_3:U)(x_0 x_1 x_2 x_3 i:Int):YRs:=yrunM M 50 1 (yz 44 [(2, .val (.c (.int .i64 letter))),(3, .loc [.u (.c (.int .i64 a_0)), .u a_1, .u a_2, .u a_3]),(4, .loc [.u (.c (.int .i64 x_0)), .u (.c (.int .i64 x_1)), .u (.c (.int .i64 x_2)), .u (.c (.int .i64 x_3))]),(7, .val (.c (.int .i64 i)))]) []
def y51(M:YM)(l_0 l_1:U)(vat:Int):YRs:=yrunM M 51 0 ([.val (.st [l_0,l_1]), .val (.c (.int .i64 vat))]) []
def y52(M:YM)(vals:U):YRs:=yrunM M 52 0 ([.val vals]) []
def y52_1(M:YM)(zero:Int)(x6:U)(x7 x8:Int):YRs:=yrunM M 52 1 (yz 18 [(3, .val (.c (.int .i64 zero))),(6, .val x6),(7, .val (.c (.int .i64 x7))),(8, .val (.c (.int .i64 x8)))]) []
def y53(M:YM)(is:Bool)(code:Int):YRs:=yrunM M 53 0 ([.val (.c (.bool is)), .val (.c (.int .i64 code))]) []
def y54(M:YM)(slices:U):YRs:=yrunM M 54 0 ([.val slices]) []
def y54_1(M:YM)(slices:U)(size:Int)(x9:U)(x10 x11:Int):YRs:=yrunM M 54 1 (yz 36 [(0, .val slices),(3, .val (.c (.int .i64 size))),(9, .val x9),(10, .val (.c (.int .i64 x10))),(11, .val (.c (.int .i64 x11)))]) []
def y54_2(M:YM)(slices:U)(size:Int)(x9:U)(x10 x11:Int):YRs:=yrunM M 54 2 (yz 36 [(0, .val slices),(3, .val (.c (.int .i64 size))),(9, .val x9),(10, .val (.c (.int .i64 x10))),(11, .val (.c (.int .i64 x11)))]) []
def y54_3(M:YM)(x25:U)(x26 x27:Int)(newslice:Sx):YRs:=yrunM M 54 3 (yz 36 [(6, .h 10000),(25, .val x25),(26, .val (.c (.int .i64 x26))),(27, .val (.c (.int .i64 x27)))]) [.sl newslice]
def y55(M:YM)(n vfrom to:Int):YRs:=yrunM M 55 0 ([.val (.c (.int .i64 n)), .val (.c (.int .i64 vfrom)), .val (.c (.int .i64 to))]) []
def y56(M:YM)(s:U)(v:Int):YRs:=yrunM M 56 0 ([.val s, .val (.c (.int .i64 v))]) []
def y60(M:YM)(x_0 x_1 x_2 x_3 letter:Int):YRs:=yrunM M 60 0 ([.val (.st [.c (.int .i64 x_0), .c (.int .i64 x_1), .c (.int .i64 x_2), .c (.int .i64 x_3)]), .val (.c (.int .i64 letter))]) []
def y61(M:YM)(s f:U):YRs:=yrunM M 61 0 ([.val s, .val f]) []
def y63(M:YM)(l:U)(states:Int):YRs:=yrunM M 63 0 ([.val l, .val (.c (.int .i64 states))]) []
def y63_1(M:YM)(l:U)(states:Int)(x9:U)(x10 x11:Int):YRs:=yrunM M 63 1 (yz 42 [(0, .val l),(1, .val (.c (.int .i64 states))),(9, .val x9),(10, .val (.c (.int .i64 x10))),(11, .val (.c (.int .i64 x11)))]) []
def y65(M:YM)(a_0:Int)(a_1 a_2 a_3 l:U)(i:Int):YRs:=yrunM M 65 0 ([.val (.st [.c (.int .i64 a_0),a_1,a_2,a_3]), .val l, .val (.c (.int .i64 i))]) []
def y81(M:YM)(letter atom:Int):YRs:=yrunM M 81 0 ([.val (.c (.int .i64 letter)), .val (.c (.int .i64 atom))]) []
def y83(M:YM)(before vin vset:U):YRs:=yrunM M 83 0 ([.val before, .val vin, .val vset]) []
def y83_1(M:YM)(before vin vset:U)(i:Int)(out vopen:Sx):YRs:=yrunM M 83 1 (yz 85 [(0, .val before),(1, .val vin),(2, .val vset),(7, .h 10000),(8, .h 10001),(9, .val (.c (.int .i64 i)))]) [.sl out, .sl vopen]
def y83_2(M:YM)(before vin vset:U)(i:Int)(out vopen:Sx):YRs:=yrunM M 83 2 (yz 85 [(0, .val before),(1, .val vin),(2, .val vset),(7, .h 10000),(8, .h 10001),(9, .val (.c (.int .i64 i)))]) [.sl out, .sl vopen]
def y83_3(M:YM)(before vin:U)(out vopen:Sx):YRs:=yrunM M 83 3 (yz 85 [(0, .val before),(1, .val vin),(7, .h 10000),(8, .h 10001)]) [.sl out, .sl vopen]
def y83_4(M:YM)(before vin:U)(x k:Int)(out vopen:Sx):YRs:=yrunM M 83 4 (yz 85 [(0, .val before),(1, .val vin),(7, .h 10000),(8, .h 10001),(10, .val (.c (.int .i64 x))),(11, .val (.c (.int .i64 k)))]) [.sl out, .sl vopen]
def y83_5(M:YM)(before vin:U)(x k:Int)(out vopen:Sx):YRs:=yrunM M 83 5 (yz 85 [(0, .val before),(1, .val vin),(7, .h 10000),(8, .h 10001),(10, .val (.c (.int .i64 x))),(11, .val (.c (.int .i64 k)))]) [.sl out, .sl vopen]
def y84(M:YM)(w_0 w_1:U):YRs:=yrunM M 84 0 ([.val (.st [w_0,w_1])]) []
def y85(M:YM)(l:U)(nodes:Int)(stateOf:U):YRs:=yrunM M 85 0 ([.val l, .val (.c (.int .i64 nodes)), .val stateOf]) []
def y85_1(M:YM)(l stateOf:U)(x12 x13:Int)(out:Sx):YRs:=yrunM M 85 1 (yz 26 [(0, .val l),(2, .val stateOf),(7, .h 10000),(12, .val (.c (.int .i64 x12))),(13, .val (.c (.int .i64 x13)))]) [.sl out]
def y86(M:YM)(v:Int)(x1:U):YRs:=yrunM M 86 0 ([.val (.c (.int .i64 v)), .val x1]) []
def y89(M:YM)(s:U)(n:Int):YRs:=yrunM M 89 0 ([.val s, .val (.c (.int .i64 n))]) []
def y89_1(M:YM)(s:U)(n:Int):YRs:=yrunM M 89 1 (yz 27 [(0, .val s),(1, .val (.c (.int .i64 n)))]) []
def y89_2(M:YM)(s:Sx):YRs:=yrunM M 89 2 (yz 27 [(0, .h 10000)]) [.sl s]
def y89_2b(M:YM)(s:U):YRs:=yrunM M 89 2 (yz 27 [(0, .val s)]) []
def y90(M:YM)(s:U)(v:Int):YRs:=yrunM M 90 0 ([.val s, .val (.c (.int .i64 v))]) []
def y90_1(M:YM)(s:U)(v x7 x8:Int):YRs:=yrunM M 90 1 (yz 19 [(0, .val s),(1, .val (.c (.int .i64 v))),(7, .val (.c (.int .i64 x7))),(8, .val (.c (.int .i64 x8)))]) []
def y91(M:YM)(s f:U):YRs:=yrunM M 91 0 ([.val s, .val f]) []
def y91_1(M:YM)(s f:U)(x7 x8:Int):YRs:=yrunM M 91 1 (yz 19 [(0, .val s),(1, .val f),(7, .val (.c (.int .i64 x7))),(8, .val (.c (.int .i64 x8)))]) []
def y92(M:YM)(g of sets:U):YRs:=yrunM M 92 0 ([.val g, .val of, .val sets]) []
def y92_1(M:YM)(g of sets:U)(n:Int)(x22:U)(x23 x24:Int):YRs:=yrunM M 92 1 (yz 147 [(0, .val g),(1, .val of),(2, .val sets),(7, .val (.c (.int .i64 n))),(22, .val x22),(23, .val (.c (.int .i64 x23))),(24, .val (.c (.int .i64 x24)))]) []
def y92_2(M:YM)(g of sets:U)(n:Int)(x35:U)(x36 x37:Int)(inner:Sx):YRs:=yrunM M 92 2 (yz 147 [(0, .val g),(1, .val of),(2, .val sets),(7, .val (.c (.int .i64 n))),(10, .h 10000),(35, .val x35),(36, .val (.c (.int .i64 x36))),(37, .val (.c (.int .i64 x37)))]) [.sl inner]
def y92_3(M:YM)(g of sets:U)(n v:Int)(x35:U)(x36 x37:Int)(x42:U)(x43 x44:Int)(inner:Sx):YRs:=yrunM M 92 3 (yz 147 [(0, .val g),(1, .val of),(2, .val sets),(7, .val (.c (.int .i64 n))),(10, .h 10000),(11, .val (.c (.int .i64 v))),(35, .val x35),(36, .val (.c (.int .i64 x36))),(37, .val (.c (.int .i64 x37))),(42, .val x42),(43, .val (.c (.int .i64 x43))),(44, .val (.c (.int .i64 x44)))]) [.sl inner]
def y92_4(M:YM)(g of:U)(n:Int)(x74:U)(x75 x76:Int)(inner:Sx):YRs:=yrunM M 92 4 (yz 147 [(0, .val g),(1, .val of),(7, .val (.c (.int .i64 n))),(10, .h 10000),(74, .val x74),(75, .val (.c (.int .i64 x75))),(76, .val (.c (.int .i64 x76)))]) [.sl inner]
def y92_5(M:YM)(g of:U)(n:Int)(s x74:U)(x75 x76 x83 x84:Int)(inner has:Sx):YRs:=yrunM M 92 5 (yz 147 [(0, .val g),(1, .val of),(7, .val (.c (.int .i64 n))),(10, .h 10000),(16, .val s),(17, .h 10001),(74, .val x74),(75, .val (.c (.int .i64 x75))),(76, .val (.c (.int .i64 x76))),(83, .val (.c (.int .i64 x83))),(84, .val (.c (.int .i64 x84)))]) [.sl inner, .sl has]
def y92_7(M:YM)(of:U)(x131 x132:Int)(inner out:Sx):YRs:=yrunM M 92 7 (yz 147 [(1, .val of),(10, .h 10000),(20, .h 10001),(131, .val (.c (.int .i64 x131))),(132, .val (.c (.int .i64 x132)))]) [.sl inner, .sl out]
def y92_6(M:YM)(g of:U)(n:Int)(x74:U)(x75 x76 x108 x109:Int)(inner has:Sx):YRs:=yrunM M 92 6 (yz 147 [(0, .val g),(1, .val of),(7, .val (.c (.int .i64 n))),(10, .h 10000),(17, .h 10001),(74, .val x74),(75, .val (.c (.int .i64 x75))),(76, .val (.c (.int .i64 x76))),(108, .val (.c (.int .i64 x108))),(109, .val (.c (.int .i64 x109)))]) [.sl inner, .sl has]
def y106(M:YM)(n:Int):YRs:=yrunM M 106 0 ([.val (.c (.int .i64 n))]) []
def y107(M:YM)(n vfrom to:Int):YRs:=yrunM M 107 0 ([.val (.c (.int .i64 n)), .val (.c (.int .i64 vfrom)), .val (.c (.int .i64 to))]) []
def y108(M:YM)(is:Bool)(code:Int):YRs:=yrunM M 108 0 ([.val (.c (.bool is)), .val (.c (.int .i64 code))]) []
def y110(M:YM)(x y:Int):YRs:=yrunM M 110 0 ([.val (.c (.int .u64 x)), .val (.c (.int .u64 y))]) []
def y115(M:YM)(x y:Int):YRs:=yrunM M 115 0 ([.val (.c (.int .u64 x)), .val (.c (.int .u64 y))]) []
def y8(M:YM):YRs:=yrunM M 8 0 [] []
def y82(M:YM)(next:U):YRs:=yrunM M 82 0 [.val next] []
theorem K1G(M:YM)(a_0:Int)(a_1 a_2 a_3:U):y9 M a_0 a_1 a_2 a_3=
 (if(decide (30<a_0))=true then
 some (decide (a_0<=300))
 else
 some (decide (30<a_0))).bind fun q1=>
 (if q1=false then
 a_2.len.bind fun k2=>
 some (decide (60<((k2:Nat):Int)))
 else
 some q1).bind fun q3=>
 (if q3=false then
 a_1.len.bind fun k4=>
 some (decide (40<((k4:Nat):Int)))
 else
 some q3).bind fun q5=>
 (if q5=false then
 a_3.len.bind fun k6=>
 some (decide (12<((k6:Nat):Int)))
 else
 some q5).bind fun q7=>
 (if q7=true then
 some (.val (.c (.bool false)))
 else
 y9_1 M a_0 a_1 a_2 a_3 0):=yq (by kernel_rfl)
theorem Y0G(M:YM)(a_0:Int)(a_1 a_2 a_3:U)(k:Int):y9_1 M a_0 a_1 a_2 a_3 k=
 a_3.len.bind fun k1=>
 (if(decide (k<((k1:Nat):Int)))=true then
 (a_3.idx 1 k).bind fun v2=>
 (v2.cell 0).bind fun c3=>
 c3.len.bind fun k4=>
 (if(decide (40<((k4:Nat):Int)))=true then
 some (.val (.c (.bool false)))
 else
 y9_1 M a_0 a_1 a_2 a_3 (IntKind.wrap .i64 (k+1)))
 else
 some (.val (.c (.bool true)))):=yq (by kernel_rfl)
theorem J1t(M:YM)(a_0:Int)(a_1 a_2 a_3:U):y11 M a_0 a_1 a_2 a_3=
 (y38 M a_1).bind fun r1=>
 r1.asSl.bind fun s2=>
 (U.asL a_2).bind fun l3=>
 (Sx.app (⟨true,4,[]⟩:Sx) 4 l3.2).bind fun s4=>
 (y39 M a_3).bind fun r5=>
 r5.asSl.bind fun s6=>
 some (.val (.st [.c (.int .i64 a_0),Sx.fz s2,Sx.fz s4,Sx.fz s6])):=yq (by kernel_rfl)
theorem J1u(M:YM)(a_0:Int)(a_1 a_2 a_3:U):y12 M a_0 a_1 a_2 a_3=
 (y27 M a_0 a_1 a_2 a_3).bind fun r1=>
 r1.asTup.bind fun t2=>
 (t2[0]?).bind fun u3=>
 (u3.asI .i64).bind fun n4=>
 (t2[1]?).bind fun u5=>
 (u5.asI .i64).bind fun n6=>
 some (.val (.c (.int .i64 n6))):=yq (by kernel_rfl)
theorem J1v(M:YM)(w_0 w_1:U):y15 M w_0 w_1=
 w_1.len.bind fun k1=>
 (if(decide (((k1:Nat):Int)=0))=true then
 some (.val (.c (.int .i64 1)))
 else
 w_0.len.bind fun k2=>
 w_1.len.bind fun k3=>
 (if(decide (60<(IntKind.wrap .i64 (((k2:Nat):Int)+((k3:Nat):Int)))))=true then
 some (.val (.c (.int .i64 2)))
 else
 y15_1 M w_0 w_1 0)):=yq (by kernel_rfl)
theorem K0H(M:YM)(w_0 w_1:U)(i:Int):y15_1 M w_0 w_1 i=
 w_0.len.bind fun k1=>
 w_1.len.bind fun k2=>
 (if(decide (i<(IntKind.wrap .i64 (((k1:Nat):Int)+((k2:Nat):Int)))))=true then
 (y42 M w_0 w_1 i).bind fun r3=>
 r3.toU.bind fun u4=>
 (u4.asI .i64).bind fun n5=>
 (y41 M n5 0 4095).bind fun r6=>
 r6.toU.bind fun u7=>
 u7.asB.bind fun b8=>
 (if(!b8)=true then
 some (.val (.c (.int .i64 3)))
 else
 y15_1 M w_0 w_1 (IntKind.wrap .i64 (i+1)))
 else
 some (.val (.c (.int .i64 0)))):=yq (by kernel_rfl)
theorem J1w(M:YM)(w_0 w_1:U):y17 M w_0 w_1=
 w_0.len.bind fun k1=>
 (if(decide (((k1:Nat):Int)<=70))=true then
 w_1.len.bind fun k2=>
 some (decide (((k2:Nat):Int)<=70))
 else
 some (decide (((k1:Nat):Int)<=70))).bind fun q3=>
 some (.val (.c (.bool q3))):=yq (by kernel_rfl)
theorem J1x(M:YM)(w_0 w_1:U):y19 M w_0 w_1=
 (y38 M w_0).bind fun r1=>
 r1.asSl.bind fun s2=>
 (y38 M w_1).bind fun r3=>
 r3.asSl.bind fun s4=>
 some (.val (.st [Sx.fz s2,Sx.fz s4])):=yq (by kernel_rfl)
theorem J1y(M:YM)(a_0 a_1 b_0 b_1:U):y21 M a_0 a_1 b_0 b_1=
 (y31 M a_0 b_0).bind fun r1=>
 r1.toU.bind fun u2=>
 u2.asB.bind fun b3=>
 (if b3=true then
 (y31 M a_1 b_1).bind fun r4=>
 r4.toU.bind fun u5=>
 u5.asB.bind fun b6=>
 some b6
 else
 some b3).bind fun q7=>
 some (.val (.c (.bool q7))):=yq (by kernel_rfl)
theorem J1z(M:YM)(a_0:Int)(a_1 a_2 a_3 w_0 w_1 run_0 run_1:U):y22 M a_0 a_1 a_2 a_3 w_0 w_1 run_0 run_1=
 (y12 M a_0 a_1 a_2 a_3).bind fun r1=>
 r1.toU.bind fun u2=>
 (u2.asI .i64).bind fun n3=>
 (if(!decide (n3=0))=true then
 some (.tup [.c (.int .i64 0), .c (.int .i64 n3)])
 else
 (y15 M w_0 w_1).bind fun r4=>
 r4.toU.bind fun u5=>
 (u5.asI .i64).bind fun n6=>
 (if(!decide (n6=0))=true then
 some (.tup [.c (.int .i64 0), .c (.int .i64 n6)])
 else
 run_1.len.bind fun k7=>
 (if(decide (((k7:Nat):Int)=0))=true then
 some (.tup [.c (.int .i64 0), .c (.int .i64 1)])
 else
 run_0.len.bind fun k8=>
 run_1.len.bind fun k9=>
 (if(decide (20000<(IntKind.wrap .i64 (((k8:Nat):Int)+((k9:Nat):Int)))))=true then
 some (.tup [.c (.int .i64 0), .c (.int .i64 2)])
 else
 run_0.len.bind fun k10=>
 w_0.len.bind fun k11=>
 (if(decide (((k10:Nat):Int)<((k11:Nat):Int)))=false then
 run_0.len.bind fun k12=>
 w_0.len.bind fun k13=>
 w_1.len.bind fun k14=>
 (if((k14:Nat):Int)=0 then
 none
 else
 some (!decide ((Int.tmod (IntKind.wrap .i64 (((k12:Nat):Int) - ((k13:Nat):Int))) ((k14:Nat):Int))=0)))
 else
 some (decide (((k10:Nat):Int)<((k11:Nat):Int)))).bind fun q15=>
 (if q15=false then
 run_1.len.bind fun k16=>
 w_1.len.bind fun k17=>
 (if((k17:Nat):Int)=0 then
 none
 else
 some (!decide ((Int.tmod ((k16:Nat):Int) ((k17:Nat):Int))=0)))
 else
 some q15).bind fun q18=>
 (if q18=true then
 some (.tup [.c (.int .i64 0), .c (.int .i64 6)])
 else
 y22_1 M a_0 a_1 a_2 a_3 w_0 w_1 run_0 run_1 (IntKind.wrap .i64 (((k8:Nat):Int)+((k9:Nat):Int))) 0))))):=yq (by kernel_rfl)
theorem K0I(M:YM)(a_0:Int)(a_1 a_2 a_3 w_0 w_1 run_0 run_1:U)(n i:Int):y22_1 M a_0 a_1 a_2 a_3 w_0 w_1 run_0 run_1 n i=
 (if(decide (i<n))=true then
 (y48 M run_0 run_1 i).bind fun r1=>
 r1.toU.bind fun u2=>
 (u2.asI .i64).bind fun n3=>
 (y41 M n3 0 (IntKind.wrap .i64 (a_0 - 1))).bind fun r4=>
 r4.toU.bind fun u5=>
 u5.asB.bind fun b6=>
 (if(!b6)=true then
 some (.tup [.c (.int .i64 i), .c (.int .i64 3)])
 else
 y22_1 M a_0 a_1 a_2 a_3 w_0 w_1 run_0 run_1 n (IntKind.wrap .i64 (i+1)))
 else
 (y48 M run_0 run_1 0).bind fun r7=>
 r7.toU.bind fun u8=>
 (u8.asI .i64).bind fun n9=>
 (y49 M a_1 n9).bind fun r10=>
 r10.toU.bind fun u11=>
 u11.asB.bind fun b12=>
 (if(!b12)=true then
 some (.tup [.c (.int .i64 0), .c (.int .i64 30)])
 else
 y22_2 M a_0 a_1 a_2 a_3 w_0 w_1 run_0 run_1 n 0)):=yq (by kernel_rfl)
theorem K0J(M:YM)(a_0:Int)(a_1 a_2 a_3 w_0 w_1 run_0 run_1:U)(n i:Int):y22_2 M a_0 a_1 a_2 a_3 w_0 w_1 run_0 run_1 n i=
 (if(decide (i<n))=true then
 (y48 M run_0 run_1 i).bind fun r1=>
 r1.toU.bind fun u2=>
 (u2.asI .i64).bind fun n3=>
 (y51 M run_0 run_1 i).bind fun r4=>
 r4.toU.bind fun u5=>
 (u5.asI .i64).bind fun n6=>
 (y48 M run_0 run_1 n6).bind fun r7=>
 r7.toU.bind fun u8=>
 (u8.asI .i64).bind fun n9=>
 (y42 M w_0 w_1 i).bind fun r10=>
 r10.toU.bind fun u11=>
 (u11.asI .i64).bind fun n12=>
 (y50 M a_0 a_1 a_2 a_3 n3 n9 0 0 n12).bind fun r13=>
 r13.toU.bind fun u14=>
 u14.asB.bind fun b15=>
 (if(!b15)=true then
 some (.tup [.c (.int .i64 i), .c (.int .i64 10)])
 else
 y22_2 M a_0 a_1 a_2 a_3 w_0 w_1 run_0 run_1 n (IntKind.wrap .i64 (i+1)))
 else
 y22_3 M a_0 a_1 a_2 a_3 run_0 run_1 0):=yq (by kernel_rfl)
theorem K0K(M:YM)(a_0:Int)(a_1 a_2 a_3 run_0 run_1:U)(k:Int):y22_3 M a_0 a_1 a_2 a_3 run_0 run_1 k=
 a_3.len.bind fun k1=>
 (if(decide (k<((k1:Nat):Int)))=true then
 y22_4 M a_0 a_1 a_2 a_3 run_0 run_1 k false 0
 else
 some (.tup [.c (.int .i64 0), .c (.int .i64 0)])):=yq (by kernel_rfl)
theorem K0L(M:YM)(a_0:Int)(a_1 a_2 a_3 run_0 run_1:U)(k:Int)(meets:Bool)(i:Int):y22_4 M a_0 a_1 a_2 a_3 run_0 run_1 k meets i=
 run_1.len.bind fun k1=>
 (if(decide (i<((k1:Nat):Int)))=true then
 (if meets=false then
 (a_3.idx 1 k).bind fun v2=>
 (run_1.idx 1 i).bind fun v3=>
 (v2.cell 0).bind fun c4=>
 (v3.cell 0).bind fun c5=>
 (c5.asI .i64).bind fun n6=>
 (y49 M c4 n6).bind fun r7=>
 r7.toU.bind fun u8=>
 u8.asB.bind fun b9=>
 some b9
 else
 some meets).bind fun q10=>
 y22_4 M a_0 a_1 a_2 a_3 run_0 run_1 k q10 (IntKind.wrap .i64 (i+1))
 else
 (if(!meets)=true then
 some (.tup [.c (.int .i64 k), .c (.int .i64 25)])
 else
 y22_3 M a_0 a_1 a_2 a_3 run_0 run_1 (IntKind.wrap .i64 (k+1)))):=yq (by kernel_rfl)
theorem J1A(M:YM)(a_0:Int)(a_1 a_2 a_3:U):y25 M a_0 a_1 a_2 a_3=
 a_2.len.bind fun k1=>
 (if(decide (6000<((k1:Nat):Int)))=false then
 a_3.len.bind fun k2=>
 some (decide (8<((k2:Nat):Int)))
 else
 some (decide (6000<((k1:Nat):Int)))).bind fun q3=>
 (y55 M a_0 0 300).bind fun r4=>
 r4.toU.bind fun u5=>
 u5.asB.bind fun b6=>
 (y53 M (!b6) 3).bind fun r7=>
 r7.toU.bind fun u8=>
 (u8.asI .i64).bind fun n9=>
 (y53 M q3 2).bind fun r10=>
 r10.toU.bind fun u11=>
 (u11.asI .i64).bind fun n12=>
 (y52 M (Sx.fz (⟨true,1,[.c (.int .i64 n9), .c (.int .i64 n12)]⟩:Sx))).bind fun r13=>
 r13.toU.bind fun u14=>
 (u14.asI .i64).bind fun n15=>
 (if(!decide (n15=0))=true then
 some (.tup [.c (.int .i64 0), .c (.int .i64 n15)])
 else
 (y63 M a_1 a_0).bind fun r16=>
 r16.asTup.bind fun t17=>
 (t17[0]?).bind fun u18=>
 (u18.asI .i64).bind fun n19=>
 (t17[1]?).bind fun u20=>
 (u20.asI .i64).bind fun n21=>
 (if(!decide (n21=0))=true then
 some (.tup [.c (.int .i64 n19), .c (.int .i64 n21)])
 else
 a_2.len.bind fun k22=>
 y25_1 M a_0 a_1 a_2 a_3 a_2 ((k22:Nat):Int) 0)):=yq (by kernel_rfl)
theorem K0M(M:YM)(a_0:Int)(a_1 a_2 a_3 x49:U)(x50 x51:Int):y25_1 M a_0 a_1 a_2 a_3 x49 x50 x51=
 (if(decide (x51<x50))=true then
 (x49.idx 4 x51).bind fun v1=>
 (U.struct v1 0 ks0).bind fun f2=>
 (y55 M ((f2 0).i) 0 (IntKind.wrap .i64 (a_0 - 1))).bind fun r3=>
 r3.toU.bind fun u4=>
 u4.asB.bind fun b5=>
 (if(!b5)=false then
 (y55 M ((f2 1).i) 0 (IntKind.wrap .i64 (a_0 - 1))).bind fun r6=>
 r6.toU.bind fun u7=>
 u7.asB.bind fun b8=>
 some (!b8)
 else
 some (!b5)).bind fun q9=>
 (if q9=false then
 (y55 M ((f2 2).i) 0 4095).bind fun r10=>
 r10.toU.bind fun u11=>
 u11.asB.bind fun b12=>
 some (!b12)
 else
 some q9).bind fun q13=>
 (if q13=false then
 (y55 M ((f2 3).i) 0 4095).bind fun r14=>
 r14.toU.bind fun u15=>
 u15.asB.bind fun b16=>
 some (!b16)
 else
 some q13).bind fun q17=>
 (if q17=true then
 some (.tup [.c (.int .i64 x51), .c (.int .i64 3)])
 else
 y25_1 M a_0 a_1 a_2 a_3 x49 x50 (IntKind.wrap .i64 (x51+1)))
 else
 a_3.len.bind fun k18=>
 y25_2 M a_0 a_1 a_2 a_3 a_3 ((k18:Nat):Int) 0):=yq (by kernel_rfl)
theorem K0N(M:YM)(a_0:Int)(a_1 a_2 a_3 x87:U)(x88 x89:Int):y25_2 M a_0 a_1 a_2 a_3 x87 x88 x89=
 (if(decide (x89<x88))=true then
 (x87.idx 1 x89).bind fun v1=>
 (v1.cell 0).bind fun c2=>
 (y63 M c2 a_0).bind fun r3=>
 r3.asTup.bind fun t4=>
 (t4[0]?).bind fun u5=>
 (u5.asI .i64).bind fun n6=>
 (t4[1]?).bind fun u7=>
 (u7.asI .i64).bind fun n8=>
 (if(!decide (n8=0))=true then
 some (.tup [.c (.int .i64 x89), .c (.int .i64 n8)])
 else
 y25_2 M a_0 a_1 a_2 a_3 x87 x88 (IntKind.wrap .i64 (x89+1)))
 else
 some (.tup [.c (.int .i64 0), .c (.int .i64 0)])):=yq (by kernel_rfl)
theorem J1B(M:YM)(a_0:Int)(a_1 a_2 a_3:U):y27 M a_0 a_1 a_2 a_3=
 (y41 M a_0 0 300).bind fun r1=>
 r1.toU.bind fun u2=>
 u2.asB.bind fun b3=>
 (if(!b3)=true then
 some (.tup [.c (.int .i64 0), .c (.int .i64 3)])
 else
 a_2.len.bind fun k4=>
 (if(decide (6000<((k4:Nat):Int)))=false then
 a_3.len.bind fun k5=>
 some (decide (8<((k5:Nat):Int)))
 else
 some (decide (6000<((k4:Nat):Int)))).bind fun q6=>
 (if q6=true then
 some (.tup [.c (.int .i64 0), .c (.int .i64 2)])
 else
 y27_1 M a_0 a_1 a_2 a_3 0)):=yq (by kernel_rfl)
theorem K0O(M:YM)(a_0:Int)(a_1 a_2 a_3:U)(i:Int):y27_1 M a_0 a_1 a_2 a_3 i=
 a_1.len.bind fun k1=>
 (if(decide (i<((k1:Nat):Int)))=true then
 (y65 M a_0 a_1 a_2 a_3 a_1 i).bind fun r2=>
 r2.toU.bind fun u3=>
 (u3.asI .i64).bind fun n4=>
 (if(!decide (n4=0))=true then
 some (.tup [.c (.int .i64 i), .c (.int .i64 n4)])
 else
 y27_1 M a_0 a_1 a_2 a_3 (IntKind.wrap .i64 (i+1)))
 else
 y27_2 M a_0 a_1 a_2 a_3 0):=yq (by kernel_rfl)
theorem K0P(M:YM)(a_0:Int)(a_1 a_2 a_3:U)(i:Int):y27_2 M a_0 a_1 a_2 a_3 i=
 a_2.len.bind fun k1=>
 (if(decide (i<((k1:Nat):Int)))=true then
 (a_2.idx 4 i).bind fun v2=>
 (U.struct v2 0 ks0).bind fun f3=>
 (y41 M ((f3 0).i) 0 (IntKind.wrap .i64 (a_0 - 1))).bind fun r4=>
 r4.toU.bind fun u5=>
 u5.asB.bind fun b6=>
 (if(!b6)=false then
 (y41 M ((f3 1).i) 0 (IntKind.wrap .i64 (a_0 - 1))).bind fun r7=>
 r7.toU.bind fun u8=>
 u8.asB.bind fun b9=>
 some (!b9)
 else
 some (!b6)).bind fun q10=>
 (if q10=false then
 (y41 M ((f3 2).i) 0 4095).bind fun r11=>
 r11.toU.bind fun u12=>
 u12.asB.bind fun b13=>
 some (!b13)
 else
 some q10).bind fun q14=>
 (if q14=false then
 (y41 M ((f3 3).i) 0 4095).bind fun r15=>
 r15.toU.bind fun u16=>
 u16.asB.bind fun b17=>
 some (!b17)
 else
 some q14).bind fun q18=>
 (if q18=true then
 some (.tup [.c (.int .i64 i), .c (.int .i64 3)])
 else
 y27_2 M a_0 a_1 a_2 a_3 (IntKind.wrap .i64 (i+1)))
 else
 y27_3 M a_0 a_1 a_2 a_3 0):=yq (by kernel_rfl)
theorem K0Q(M:YM)(a_0:Int)(a_1 a_2 a_3:U)(i:Int):y27_3 M a_0 a_1 a_2 a_3 i=
 a_3.len.bind fun k1=>
 (if(decide (i<((k1:Nat):Int)))=true then
 y27_4 M a_0 a_1 a_2 a_3 i 0
 else
 some (.tup [.c (.int .i64 0), .c (.int .i64 0)])):=yq (by kernel_rfl)
theorem K0R(M:YM)(a_0:Int)(a_1 a_2 a_3:U)(i k:Int):y27_4 M a_0 a_1 a_2 a_3 i k=
 (a_3.idx 1 i).bind fun v1=>
 (v1.cell 0).bind fun c2=>
 c2.len.bind fun k3=>
 (if(decide (k<((k3:Nat):Int)))=true then
 (a_3.idx 1 i).bind fun v4=>
 (v4.cell 0).bind fun c5=>
 (y65 M a_0 a_1 a_2 a_3 c5 k).bind fun r6=>
 r6.toU.bind fun u7=>
 (u7.asI .i64).bind fun n8=>
 (if(!decide (n8=0))=true then
 some (.tup [.c (.int .i64 i), .c (.int .i64 n8)])
 else
 y27_4 M a_0 a_1 a_2 a_3 i (IntKind.wrap .i64 (k+1)))
 else
 y27_3 M a_0 a_1 a_2 a_3 (IntKind.wrap .i64 (i+1))):=yq (by kernel_rfl)
theorem J1C(M:YM)(a b:U):y31 M a b=
 a.len.bind fun k1=>
 b.len.bind fun k2=>
 (if(!decide (((k1:Nat):Int)=((k2:Nat):Int)))=true then
 some (.val (.c (.bool false)))
 else
 y31_1 M a b 0):=yq (by kernel_rfl)
theorem z1p(M:YM)(a b:U)(i:Int):y31_1 M a b i=
 a.len.bind fun k1=>
 (if(decide (i<((k1:Nat):Int)))=true then
 (a.idx 1 i).bind fun v2=>
 (b.idx 1 i).bind fun v3=>
 (v2.cell 0).bind fun c4=>
 (c4.asI .i64).bind fun n5=>
 (v3.cell 0).bind fun c6=>
 (c6.asI .i64).bind fun n7=>
 (if(!decide (n5=n7))=true then
 some (.val (.c (.bool false)))
 else
 y31_1 M a b (IntKind.wrap .i64 (i+1)))
 else
 some (.val (.c (.bool true)))):=yq (by kernel_rfl)
theorem J1D(M:YM)(a_0:Int)(a_1 a_2 a_3:U):y36 M a_0 a_1 a_2 a_3=
 (y25 M a_0 a_1 a_2 a_3).bind fun r1=>
 r1.asTup.bind fun t2=>
 (t2[0]?).bind fun u3=>
 (u3.asI .i64).bind fun n4=>
 (t2[1]?).bind fun u5=>
 (u5.asI .i64).bind fun n6=>
 some (.val (.c (.int .i64 n6))):=yq (by kernel_rfl)
theorem J1E(M:YM)(l:U):y38 M l=
 (U.asL l).bind fun l1=>
 (Sx.app (⟨true,1,[]⟩:Sx) 1 l1.2).bind fun s2=>
 (if scals s2.es=true then
 some (.sl s2)
 else
 none):=yq (by kernel_rfl)
theorem J1F(M:YM)(l:U):y39 M l=
 y39_1 M l 0 (⟨false,0,[]⟩:Sx):=yq (by kernel_rfl)
theorem K0S(M:YM)(l:U)(i:Int)(out:Sx):y39_1 M l i out=
 l.len.bind fun k1=>
 (if(decide (i<((k1:Nat):Int)))=true then
 (l.idx 1 i).bind fun v2=>
 (v2.cell 0).bind fun c3=>
 (y38 M c3).bind fun r4=>
 r4.asSl.bind fun s5=>
 (Sx.app out 1 ([Sx.fz s5])).bind fun s6=>
 y39_1 M l (IntKind.wrap .i64 (i+1)) s6
 else
 some (.sl out)):=yq (by kernel_rfl)
theorem J1G(M:YM)(n low high:Int):y41 M n low high=
 (if(decide (low<=n))=true then
 some (decide (n<=high))
 else
 some (decide (low<=n))).bind fun q1=>
 some (.val (.c (.bool q1))):=yq (by kernel_rfl)
theorem J1H(M:YM)(w_0 w_1:U)(vat:Int):y42 M w_0 w_1 vat=
 w_0.len.bind fun k1=>
 (if(decide (vat<((k1:Nat):Int)))=true then
 (w_0.idx 1 vat).bind fun v2=>
 (v2.cell 0).bind fun c3=>
 (c3.asI .i64).bind fun n4=>
 some (.val (.c (.int .i64 n4)))
 else
 w_0.len.bind fun k5=>
 w_1.len.bind fun k6=>
 (if((k6:Nat):Int)=0 then
 none
 else
 (w_1.idx 1 (Int.tmod (IntKind.wrap .i64 (vat - ((k5:Nat):Int))) ((k6:Nat):Int))).bind fun v7=>
 (v7.cell 0).bind fun c8=>
 (c8.asI .i64).bind fun n9=>
 some (.val (.c (.int .i64 n9))))):=yq (by kernel_rfl)
theorem J1I(M:YM)(x_0 x_1 x_2 x_3 letter:Int):y43 M x_0 x_1 x_2 x_3 letter=
 y43_1 M letter x_0 x_1 x_2 x_3 0:=yq (by kernel_rfl)
theorem K0T(M:YM)(letter x_0 x_1 x_2 x_3 i:Int):y43_1 M letter x_0 x_1 x_2 x_3 i=
 (if(decide (i<12))=true then
 (y81 M x_2 i).bind fun r1=>
 r1.toU.bind fun u2=>
 u2.asB.bind fun b3=>
 (if b3=true then
 (y81 M letter i).bind fun r4=>
 r4.toU.bind fun u5=>
 u5.asB.bind fun b6=>
 some (!b6)
 else
 some b3).bind fun q7=>
 (if q7=false then
 (y81 M x_3 i).bind fun r8=>
 r8.toU.bind fun u9=>
 u9.asB.bind fun b10=>
 (if b10=true then
 (y81 M letter i).bind fun r11=>
 r11.toU.bind fun u12=>
 u12.asB.bind fun b13=>
 some b13
 else
 some b10).bind fun q14=>
 some q14
 else
 some q7).bind fun q15=>
 (if q15=true then
 some (.val (.c (.bool false)))
 else
 y43_1 M letter x_0 x_1 x_2 x_3 (IntKind.wrap .i64 (i+1)))
 else
 some (.val (.c (.bool true)))):=yq (by kernel_rfl)
theorem w1a(M:YM)(next sets:U):y44 M next sets=
 next.len.bind fun k1=>
 (if 0<=((k1:Nat):Int)/\((k1:Nat):Int)<=2 ^ 36/\1=1 then
 y44_1 M next sets 0 (⟨true,1,(List.replicate ((k1:Nat):Int).toNat (.c (.bool false)):List U)⟩:Sx)
 else
 none):=yq (by kernel_rfl)
theorem Q0S(M:YM)(next sets:U)(i:Int)(vin:Sx):y44_1 M next sets i vin=
 (if(decide (i<(((vin.es).length:Nat):Int)))=true then
 (if Sx.has vin 1 i=true then
 (Sx.put vin 1 i.toNat 0 (.c (.bool true))).bind fun s1=>
 y44_1 M next sets (IntKind.wrap .i64 (i+1)) s1
 else
 none)
 else
 (y82 M next).bind fun r2=>
 r2.toU.bind fun u3=>
 u3.one.bind fun u4=>
 sets.len.bind fun k5=>
 (if(decide (((k5:Nat):Int)=0))=true then
 (Sx.app (⟨true,1,[]⟩:Sx) 1 vin.es).bind fun s6=>
 y44_2 M u4 vin (⟨true,1,[Sx.fz s6]⟩:Sx)
 else
 y44_2b M u4 sets vin)):=yq (by kernel_rfl)
theorem z1q(M:YM)(before:U)(vin all:Sx):y44_2 M before vin all=
 y44_3 M before true vin all:=yq (by kernel_rfl)
theorem Y0H(M:YM)(before all:U)(vin:Sx):y44_2b M before all vin=
 y44_3b M before all true vin:=yq (by kernel_rfl)
theorem z1r(M:YM)(before:U)(changed:Bool)(vin all:Sx):y44_3 M before changed vin all=
 (if changed=true then
 y44_4 M before false 0 vin all
 else
 (if scals vin.es=true then
 some (.sl vin)
 else
 none)):=yq (by kernel_rfl)
theorem Y0I(M:YM)(before all:U)(changed:Bool)(vin:Sx):y44_3b M before all changed vin=
 (if changed=true then
 y44_4b M before all false 0 vin
 else
 (if scals vin.es=true then
 some (.sl vin)
 else
 none)):=yq (by kernel_rfl)
theorem K0U(M:YM)(before:U)(changed:Bool)(k:Int)(vin all:Sx):y44_4 M before changed k vin all=
 (if(decide (k<(((all.es).length:Nat):Int)))=true then
 (if Sx.has all 1 k=true then
 ((all.es)[k.toNat]?).bind fun v1=>
 (v1.cell 0).bind fun c2=>
 (y83 M before (Sx.fz vin) c2).bind fun r3=>
 r3.asSl.bind fun s4=>
 y44_5 M before changed k 0 vin all s4
 else
 none)
 else
 y44_3 M before changed vin all):=yq (by kernel_rfl)
theorem J0P(M:YM)(before all:U)(changed:Bool)(k:Int)(vin:Sx):y44_4b M before all changed k vin=
 all.len.bind fun k1=>
 (if(decide (k<((k1:Nat):Int)))=true then
 (all.idx 1 k).bind fun v2=>
 (v2.cell 0).bind fun c3=>
 (y83 M before (Sx.fz vin) c3).bind fun r4=>
 r4.asSl.bind fun s5=>
 y44_5b M before all changed k 0 vin s5
 else
 y44_3b M before all changed vin):=yq (by kernel_rfl)
theorem K0V(M:YM)(before:U)(changed:Bool)(k i:Int)(vin all now:Sx):y44_5 M before changed k i vin all now=
 (if(decide (i<(((vin.es).length:Nat):Int)))=true then
 (if Sx.has vin 1 i=true then
 ((vin.es)[i.toNat]?).bind fun v1=>
 (v1.cell 0).bind fun c2=>
 c2.asB.bind fun b3=>
 (if b3=true then
 (if Sx.has now 1 i=true then
 ((now.es)[i.toNat]?).bind fun v4=>
 (v4.cell 0).bind fun c5=>
 c5.asB.bind fun b6=>
 some (!b6)
 else
 none)
 else
 some b3).bind fun q7=>
 (if q7=true then
 (if Sx.has vin 1 i=true then
 (Sx.put vin 1 i.toNat 0 (.c (.bool false))).bind fun s8=>
 y44_6 M before true k i s8 all now
 else
 none)
 else
 y44_6 M before changed k i vin all now)
 else
 none)
 else
 y44_4 M before changed (IntKind.wrap .i64 (k+1)) vin all):=yq (by kernel_rfl)
theorem J0Q(M:YM)(before all:U)(changed:Bool)(k i:Int)(vin now:Sx):y44_5b M before all changed k i vin now=
 (if(decide (i<(((vin.es).length:Nat):Int)))=true then
 (if Sx.has vin 1 i=true then
 ((vin.es)[i.toNat]?).bind fun v1=>
 (v1.cell 0).bind fun c2=>
 c2.asB.bind fun b3=>
 (if b3=true then
 (if Sx.has now 1 i=true then
 ((now.es)[i.toNat]?).bind fun v4=>
 (v4.cell 0).bind fun c5=>
 c5.asB.bind fun b6=>
 some (!b6)
 else
 none)
 else
 some b3).bind fun q7=>
 (if q7=true then
 (if Sx.has vin 1 i=true then
 (Sx.put vin 1 i.toNat 0 (.c (.bool false))).bind fun s8=>
 y44_6b M before all true k i s8 now
 else
 none)
 else
 y44_6b M before all changed k i vin now)
 else
 none)
 else
 y44_4b M before all changed (IntKind.wrap .i64 (k+1)) vin):=yq (by kernel_rfl)
theorem z1s(M:YM)(before:U)(changed:Bool)(k i:Int)(vin all now:Sx):y44_6 M before changed k i vin all now=
 y44_5 M before changed k (IntKind.wrap .i64 (i+1)) vin all now:=yq (by kernel_rfl)
theorem Y0J(M:YM)(before all:U)(changed:Bool)(k i:Int)(vin now:Sx):y44_6b M before all changed k i vin now=
 y44_5b M before all changed k (IntKind.wrap .i64 (i+1)) vin now:=yq (by kernel_rfl)
theorem J1J(M:YM)(a_0:Int)(a_1 a_2 a_3 w_0 w_1:U):y45 M a_0 a_1 a_2 a_3 w_0 w_1=
 (y36 M a_0 a_1 a_2 a_3).bind fun r1=>
 r1.toU.bind fun u2=>
 (u2.asI .i64).bind fun n3=>
 (y84 M w_0 w_1).bind fun r4=>
 r4.toU.bind fun u5=>
 (u5.asI .i64).bind fun n6=>
 (y52 M (Sx.fz (⟨true,1,[.c (.int .i64 n3), .c (.int .i64 n6)]⟩:Sx))).bind fun r7=>
 r7.toU.bind fun u8=>
 (u8.asI .i64).bind fun n9=>
 some (.val (.c (.int .i64 n9))):=yq (by kernel_rfl)
theorem J1K(M:YM)(l_0 l_1:U)(vat:Int):y48 M l_0 l_1 vat=
 l_0.len.bind fun k1=>
 (if(decide (vat<((k1:Nat):Int)))=true then
 (l_0.idx 1 vat).bind fun v2=>
 (v2.cell 0).bind fun c3=>
 (c3.asI .i64).bind fun n4=>
 some (.val (.c (.int .i64 n4)))
 else
 l_0.len.bind fun k5=>
 (l_1.idx 1 (IntKind.wrap .i64 (vat - ((k5:Nat):Int)))).bind fun v6=>
 (v6.cell 0).bind fun c7=>
 (c7.asI .i64).bind fun n8=>
 some (.val (.c (.int .i64 n8)))):=yq (by kernel_rfl)
theorem J1L(M:YM)(l:U)(n:Int):y49 M l n=
 y49_1 M l n 0:=yq (by kernel_rfl)
theorem K0W(M:YM)(l:U)(n i:Int):y49_1 M l n i=
 l.len.bind fun k1=>
 (if(decide (i<((k1:Nat):Int)))=true then
 (l.idx 1 i).bind fun v2=>
 (v2.cell 0).bind fun c3=>
 (c3.asI .i64).bind fun n4=>
 (if(decide (n4=n))=true then
 some (.val (.c (.bool true)))
 else
 y49_1 M l n (IntKind.wrap .i64 (i+1)))
 else
 some (.val (.c (.bool false)))):=yq (by kernel_rfl)
theorem J1M(M:YM)(a_0:Int)(a_1 a_2 a_3:U)(x_0 x_1 x_2 x_3 letter:Int):y50 M a_0 a_1 a_2 a_3 x_0 x_1 x_2 x_3 letter=
 y50_1 M letter a_0 a_1 a_2 a_3 x_0 x_1 x_2 x_3 0:=yq (by kernel_rfl)
theorem K0X(M:YM)(letter a_0:Int)(a_1 a_2 a_3:U)(x_0 x_1 x_2 x_3 i:Int):y50_1 M letter a_0 a_1 a_2 a_3 x_0 x_1 x_2 x_3 i=
 a_2.len.bind fun k1=>
 (if(decide (i<((k1:Nat):Int)))=true then
 (a_2.idx 4 i).bind fun v2=>
 (v2.cell 0).bind fun c3=>
 (c3.asI .i64).bind fun n4=>
 (if(decide (n4=x_0))=true then
 (a_2.idx 4 i).bind fun v5=>
 (v5.cell 1).bind fun c6=>
 (c6.asI .i64).bind fun n7=>
 some (decide (n7=x_1))
 else
 some (decide (n4=x_0))).bind fun q8=>
 (if q8=true then
 (a_2.idx 4 i).bind fun v9=>
 (U.struct v9 0 ks0).bind fun f10=>
 (y43 M ((f10 0).i) ((f10 1).i) ((f10 2).i) ((f10 3).i) letter).bind fun r11=>
 r11.toU.bind fun u12=>
 u12.asB.bind fun b13=>
 some b13
 else
 some q8).bind fun q14=>
 (if q14=true then
 some (.val (.c (.bool true)))
 else
 y50_1 M letter a_0 a_1 a_2 a_3 x_0 x_1 x_2 x_3 (IntKind.wrap .i64 (i+1)))
 else
 some (.val (.c (.bool false)))):=yq (by kernel_rfl)
theorem J1N(M:YM)(l_0 l_1:U)(vat:Int):y51 M l_0 l_1 vat=
 l_0.len.bind fun k1=>
 l_1.len.bind fun k2=>
 (if(decide ((IntKind.wrap .i64 (vat+1))<(IntKind.wrap .i64 (((k1:Nat):Int)+((k2:Nat):Int)))))=true then
 some (.val (.c (.int .i64 (IntKind.wrap .i64 (vat+1)))))
 else
 l_0.len.bind fun k3=>
 some (.val (.c (.int .i64 ((k3:Nat):Int))))):=yq (by kernel_rfl)
theorem J1O(M:YM)(vals:U):y52 M vals=
 vals.len.bind fun k1=>
 y52_1 M 0 vals ((k1:Nat):Int) 0:=yq (by kernel_rfl)
theorem K0Y(M:YM)(zero:Int)(x6:U)(x7 x8:Int):y52_1 M zero x6 x7 x8=
 (if(decide (x8<x7))=true then
 (x6.idx 1 x8).bind fun v1=>
 (v1.cell 0).bind fun c2=>
 (c2.asI .i64).bind fun n3=>
 (if(!decide (n3=zero))=true then
 some (.val (.c (.int .i64 n3)))
 else
 y52_1 M zero x6 x7 (IntKind.wrap .i64 (x8+1)))
 else
 some (.val (.c (.int .i64 zero)))):=yq (by kernel_rfl)
theorem J1P(M:YM)(is:Bool)(code:Int):y53 M is code=
 (if is=true then
 some (.val (.c (.int .i64 code)))
 else
 some (.val (.c (.int .i64 0)))):=yq (by kernel_rfl)
theorem J1Q(M:YM)(slices:U):y54 M slices=
 slices.len.bind fun k1=>
 y54_1 M slices 0 slices ((k1:Nat):Int) 0:=yq (by kernel_rfl)
theorem Q0T(M:YM)(slices:U)(size:Int)(x9:U)(x10 x11:Int):y54_1 M slices size x9 x10 x11=
 (if(decide (x11<x10))=true then
 (x9.idx 1 x11).bind fun v1=>
 (v1.cell 0).bind fun c2=>
 c2.len.bind fun k3=>
 (if(decide ((IntKind.wrap .i64 (size+((k3:Nat):Int)))<0))=true then
 none
 else
 y54_2 M slices (IntKind.wrap .i64 (size+((k3:Nat):Int))) x9 x10 x11)
 else
 (y89 M (.sl false ([])) size).bind fun r4=>
 r4.asSl.bind fun s5=>
 slices.len.bind fun k6=>
 y54_3 M slices ((k6:Nat):Int) 0 s5):=yq (by kernel_rfl)
theorem K0Z(M:YM)(slices:U)(size:Int)(x9:U)(x10 x11:Int):y54_2 M slices size x9 x10 x11=
 y54_1 M slices size x9 x10 (IntKind.wrap .i64 (x11+1)):=yq (by kernel_rfl)
theorem Q0U(M:YM)(x25:U)(x26 x27:Int)(newslice:Sx):y54_3 M x25 x26 x27 newslice=
 (if(decide (x27<x26))=true then
 (x25.idx 1 x27).bind fun v1=>
 (v1.cell 0).bind fun c2=>
 (U.asL c2).bind fun l3=>
 (Sx.app newslice 1 l3.2).bind fun s4=>
 y54_3 M x25 x26 (IntKind.wrap .i64 (x27+1)) s4
 else
 (if scals newslice.es=true then
 some (.sl newslice)
 else
 none)):=yq (by kernel_rfl)
theorem J1R(M:YM)(n vfrom to:Int):y55 M n vfrom to=
 (if(decide (vfrom<=n))=true then
 some (decide (n<=to))
 else
 some (decide (vfrom<=n))).bind fun q1=>
 some (.val (.c (.bool q1))):=yq (by kernel_rfl)
theorem J1S(M:YM)(s:U)(v:Int):y56 M s v=
 (y90 M s v).bind fun r1=>
 r1.toU.bind fun u2=>
 (u2.asI .i64).bind fun n3=>
 some (.val (.c (.bool (decide (0<=n3))))):=yq (by kernel_rfl)
theorem J1T(M:YM)(x_0 x_1 x_2 x_3 letter:Int):y60 M x_0 x_1 x_2 x_3 letter=
 (if(decide ((bitI .and .i64 letter x_2)=x_2))=true then
 some (decide ((bitI .and .i64 letter x_3)=0))
 else
 some (decide ((bitI .and .i64 letter x_2)=x_2))).bind fun q1=>
 some (.val (.c (.bool q1))):=yq (by kernel_rfl)
theorem J1U(M:YM)(s f:U):y61 M s f=
 (y91 M s f).bind fun r1=>
 r1.toU.bind fun u2=>
 (u2.asI .i64).bind fun n3=>
 some (.val (.c (.bool (decide (0<=n3))))):=yq (by kernel_rfl)
theorem J1V(M:YM)(l:U)(states:Int):y63 M l states=
 l.len.bind fun k1=>
 y63_1 M l states l ((k1:Nat):Int) 0:=yq (by kernel_rfl)
theorem W0a(M:YM)(l:U)(states:Int)(x9:U)(x10 x11:Int):y63_1 M l states x9 x10 x11=
 (if(decide (x11<x10))=true then
 (x9.idx 1 x11).bind fun v1=>
 (v1.cell 0).bind fun c2=>
 (c2.asI .i64).bind fun n3=>
 (y55 M n3 0 (IntKind.wrap .i64 (states - 1))).bind fun r4=>
 r4.toU.bind fun u5=>
 u5.asB.bind fun b6=>
 (y53 M (!b6) 3).bind fun r7=>
 r7.toU.bind fun u8=>
 (u8.asI .i64).bind fun n9=>
 (if(decide (0<x11))=true then
 (l.idx 1 (if 0>(IntKind.wrap .i64 (x11 - 1))then 0 else(IntKind.wrap .i64 (x11 - 1)))).bind fun v10=>
 (v10.cell 0).bind fun c11=>
 (c11.asI .i64).bind fun n12=>
 some (decide (n3<=n12))
 else
 some (decide (0<x11))).bind fun q13=>
 (y53 M q13 13).bind fun r14=>
 r14.toU.bind fun u15=>
 (u15.asI .i64).bind fun n16=>
 (y52 M (Sx.fz (⟨true,1,[.c (.int .i64 n9), .c (.int .i64 n16)]⟩:Sx))).bind fun r17=>
 r17.toU.bind fun u18=>
 (u18.asI .i64).bind fun n19=>
 (if(!decide (n19=0))=true then
 some (.tup [.c (.int .i64 x11), .c (.int .i64 n19)])
 else
 y63_1 M l states x9 x10 (IntKind.wrap .i64 (x11+1)))
 else
 some (.tup [.c (.int .i64 0), .c (.int .i64 0)])):=yq (by kernel_rfl)
theorem J1W(M:YM)(a_0:Int)(a_1 a_2 a_3 l:U)(i:Int):y65 M a_0 a_1 a_2 a_3 l i=
 (l.idx 1 i).bind fun v1=>
 (v1.cell 0).bind fun c2=>
 (c2.asI .i64).bind fun n3=>
 (y41 M n3 0 (IntKind.wrap .i64 (a_0 - 1))).bind fun r4=>
 r4.toU.bind fun u5=>
 u5.asB.bind fun b6=>
 (if(!b6)=true then
 some (.val (.c (.int .i64 3)))
 else
 (if(decide (0<i))=true then
 (l.idx 1 i).bind fun v7=>
 (l.idx 1 (IntKind.wrap .i64 (i - 1))).bind fun v8=>
 (v7.cell 0).bind fun c9=>
 (c9.asI .i64).bind fun n10=>
 (v8.cell 0).bind fun c11=>
 (c11.asI .i64).bind fun n12=>
 some (decide (n10<=n12))
 else
 some (decide (0<i))).bind fun q13=>
 (if q13=true then
 some (.val (.c (.int .i64 13)))
 else
 some (.val (.c (.int .i64 0))))):=yq (by kernel_rfl)
theorem J1X(M:YM)(letter atom:Int):y81 M letter atom=
 (if atom<0 then
 none
 else
 some (.val (.c (.bool (decide ((Int.tmod (shI .shr .i64 letter atom) 2)=1)))))):=yq (by kernel_rfl)
theorem J1Y(M:YM)(before vin vset:U):y83 M before vin vset=
 vin.len.bind fun k1=>
 (if 0<=((k1:Nat):Int)/\((k1:Nat):Int)<=2 ^ 36/\1=1 then
 y83_1 M before vin vset 0 (⟨true,1,(List.replicate ((k1:Nat):Int).toNat (.c (.bool false)):List U)⟩:Sx) (⟨false,0,[]⟩:Sx)
 else
 none):=yq (by kernel_rfl)
theorem W0b(M:YM)(before vin vset:U)(i:Int)(out vopen:Sx):y83_1 M before vin vset i out vopen=
 vin.len.bind fun k1=>
 (if(decide (i<((k1:Nat):Int)))=true then
 (vin.idx 1 i).bind fun v2=>
 (v2.cell 0).bind fun c3=>
 c3.asB.bind fun b4=>
 (if b4=true then
 (vset.idx 1 i).bind fun v5=>
 (v5.cell 0).bind fun c6=>
 c6.asB.bind fun b7=>
 some b7
 else
 some b4).bind fun q8=>
 (if q8=true then
 (Sx.app vopen 1 ([.c (.int .i64 i)])).bind fun s9=>
 y83_2 M before vin vset i out s9
 else
 y83_2 M before vin vset i out vopen)
 else
 y83_3 M before vin out vopen):=yq (by kernel_rfl)
theorem z1t(M:YM)(before vin vset:U)(i:Int)(out vopen:Sx):y83_2 M before vin vset i out vopen=
 y83_1 M before vin vset (IntKind.wrap .i64 (i+1)) out vopen:=yq (by kernel_rfl)
theorem W0c(M:YM)(before vin:U)(out vopen:Sx):y83_3 M before vin out vopen=
 (if(decide (0<(((vopen.es).length:Nat):Int)))=true then
 (if Sx.has vopen 1 (IntKind.wrap .i64 ((((vopen.es).length:Nat):Int) - 1))=true then
 ((vopen.es)[(IntKind.wrap .i64 ((((vopen.es).length:Nat):Int) - 1)).toNat]?).bind fun v1=>
 (v1.cell 0).bind fun c2=>
 (c2.asI .i64).bind fun n3=>
 (if vopen.sz=1/\vopen.b=true then
 (subU 1 vopen.es 0 (some (IntKind.wrap .i64 ((((vopen.es).length:Nat):Int) - 1)))).bind fun l4=>
 y83_4 M before vin n3 0 out (Sx.win vopen ((0:Int).toNat) l4.length)
 else
 none)
 else
 none)
 else
 (if scals out.es=true then
 some (.sl out)
 else
 none)):=yq (by kernel_rfl)
theorem W0d(M:YM)(before vin:U)(x k:Int)(out vopen:Sx):y83_4 M before vin x k out vopen=
 (before.idx 1 x).bind fun v1=>
 (v1.cell 0).bind fun c2=>
 c2.len.bind fun k3=>
 (if(decide (k<((k3:Nat):Int)))=true then
 (before.idx 1 x).bind fun v4=>
 (v4.cell 0).bind fun c5=>
 (c5.idx 1 k).bind fun v6=>
 (v6.cell 0).bind fun c7=>
 (c7.asI .i64).bind fun n8=>
 (vin.idx 1 n8).bind fun v9=>
 (v9.cell 0).bind fun c10=>
 c10.asB.bind fun b11=>
 (if b11=true then
 (if Sx.has out 1 n8=true then
 ((out.es)[n8.toNat]?).bind fun v12=>
 (v12.cell 0).bind fun c13=>
 c13.asB.bind fun b14=>
 some (!b14)
 else
 none)
 else
 some b11).bind fun q15=>
 (if q15=true then
 (if Sx.has out 1 n8=true then
 (Sx.put out 1 n8.toNat 0 (.c (.bool true))).bind fun s16=>
 (Sx.app vopen 1 ([.c (.int .i64 n8)])).bind fun s17=>
 y83_5 M before vin x k s16 s17
 else
 none)
 else
 y83_5 M before vin x k out vopen)
 else
 y83_3 M before vin out vopen):=yq (by kernel_rfl)
theorem z1u(M:YM)(before vin:U)(x k:Int)(out vopen:Sx):y83_5 M before vin x k out vopen=
 y83_4 M before vin x (IntKind.wrap .i64 (k+1)) out vopen:=yq (by kernel_rfl)
theorem J1Z(M:YM)(w_0 w_1:U):y84 M w_0 w_1=
 w_1.len.bind fun k1=>
 w_0.len.bind fun k2=>
 w_1.len.bind fun k3=>
 (y108 M (decide (((k1:Nat):Int)=0)) 1).bind fun r4=>
 r4.toU.bind fun u5=>
 (u5.asI .i64).bind fun n6=>
 (y108 M (decide (60<(IntKind.wrap .i64 (((k2:Nat):Int)+((k3:Nat):Int))))) 2).bind fun r7=>
 r7.toU.bind fun u8=>
 (u8.asI .i64).bind fun n9=>
 (y52 M (Sx.fz (⟨true,1,[.c (.int .i64 n6), .c (.int .i64 n9)]⟩:Sx))).bind fun r10=>
 r10.toU.bind fun u11=>
 (u11.asI .i64).bind fun n12=>
 (if(!decide (n12=0))=true then
 some (.val (.c (.int .i64 n12)))
 else
 (y61 M w_0 (.fn 106 [] [])).bind fun r13=>
 r13.toU.bind fun u14=>
 u14.asB.bind fun b15=>
 (if b15=false then
 (y61 M w_1 (.fn 106 [] [])).bind fun r16=>
 r16.toU.bind fun u17=>
 u17.asB.bind fun b18=>
 some b18
 else
 some b15).bind fun q19=>
 (y108 M q19 3).bind fun r20=>
 r20.toU.bind fun u21=>
 (u21.asI .i64).bind fun n22=>
 some (.val (.c (.int .i64 n22)))):=yq (by kernel_rfl)
theorem Z1a(M:YM)(l:U)(nodes:Int)(stateOf:U):y85 M l nodes stateOf=
 (if 0<=nodes/\nodes<=2 ^ 36/\1=1 then
 y85_1 M l stateOf ((((List.replicate nodes.toNat (.c (.bool false)):List U)).length:Nat):Int) 0 (⟨true,1,(List.replicate nodes.toNat (.c (.bool false)):List U)⟩:Sx)
 else
 none):=yq (by kernel_rfl)
theorem W0e(M:YM)(l stateOf:U)(x12 x13:Int)(out:Sx):y85_1 M l stateOf x12 x13 out=
 (if(decide (x13<x12))=true then
 stateOf.asF.bind fun g1=>
 (ycall M g1.1 (g1.2.1++[.c (.int .i64 x13)]++g1.2.2)).bind fun r2=>
 r2.toU.bind fun u3=>
 (u3.asI .i64).bind fun n4=>
 (y56 M l n4).bind fun r5=>
 r5.toU.bind fun u6=>
 u6.asB.bind fun b7=>
 (if Sx.has out 1 x13=true then
 (Sx.put out 1 x13.toNat 0 (.c (.bool b7))).bind fun s8=>
 y85_1 M l stateOf x12 (IntKind.wrap .i64 (x13+1)) s8
 else
 none)
 else
 (if scals out.es=true then
 some (.sl out)
 else
 none)):=yq (by kernel_rfl)
theorem Z1b(M:YM)(v:Int)(x1:U):y86 M v x1=
 x1.asR.bind fun a1=>
 (U.cell a1.1 a1.2).bind fun c2=>
 (c2.asI .i64).bind fun n3=>
 (if n3=0 then
 none
 else
 some (.val (.c (.int .i64 (Int.tmod v n3))))):=yq (by kernel_rfl)
theorem Z1c(M:YM)(s:U)(n:Int):y89 M s n=
 (if(decide (n<0))=true then
 none
 else
 y89_1 M s n):=yq (by kernel_rfl)
theorem z1v(M:YM)(s:U)(n:Int):y89_1 M s n=
 (if U.isNilSl s=true then
 s.len.bind fun k1=>
 (if(decide (0<(IntKind.wrap .i64 (n - (IntKind.wrap .i64 (0 - ((k1:Nat):Int)))))))=true then
 (if U.isNilSl s=true then
 (U.sub 1 s 0 (some 0)).bind fun v2=>
 (if U.isNilSl v2=true then
 (if 0<(IntKind.wrap .i64 (n - (IntKind.wrap .i64 (0 - ((k1:Nat):Int)))))/\(IntKind.wrap .i64 (n - (IntKind.wrap .i64 (0 - ((k1:Nat):Int)))))<=2 ^ 36/\1=1 then
 s.len.bind fun k3=>
 (if 1=1/\true=true then
 (subU 1 (List.replicate (IntKind.wrap .i64 (n - (IntKind.wrap .i64 (0 - ((k1:Nat):Int))))).toNat (.c (.int .i64 0)):List U) 0 (some ((k3:Nat):Int))).bind fun l4=>
 y89_2 M (Sx.win (⟨true,1,(List.replicate (IntKind.wrap .i64 (n - (IntKind.wrap .i64 (0 - ((k1:Nat):Int))))).toNat (.c (.int .i64 0)):List U)⟩:Sx) ((0:Int).toNat) l4.length)
 else
 none)
 else
 none)
 else
 none)
 else
 none)
 else
 y89_2b M s)
 else
 none):=yq (by kernel_rfl)
theorem z1w(M:YM)(s:Sx):y89_2 M s=
 (if scals s.es=true then
 some (.sl s)
 else
 none):=yq (by kernel_rfl)
theorem Y0K(M:YM)(s:U):y89_2b M s=
 ((if U.isNilSl s=true then some Sx.nil else none)).bind fun s1=>
 (if scals s1.es=true then
 some (.sl s1)
 else
 none):=yq (by kernel_rfl)
theorem Z1d(M:YM)(s:U)(v:Int):y90 M s v=
 s.len.bind fun k1=>
 y90_1 M s v ((k1:Nat):Int) 0:=yq (by kernel_rfl)
theorem W0f(M:YM)(s:U)(v x7 x8:Int):y90_1 M s v x7 x8=
 (if(decide (x8<x7))=true then
 (s.idx 1 x8).bind fun v1=>
 (v1.cell 0).bind fun c2=>
 (c2.asI .i64).bind fun n3=>
 (if(decide (v=n3))=true then
 some (.val (.c (.int .i64 x8)))
 else
 y90_1 M s v x7 (IntKind.wrap .i64 (x8+1)))
 else
 some (.val (.c (.int .i64 (-1))))):=yq (by kernel_rfl)
theorem Z1e(M:YM)(s f:U):y91 M s f=
 s.len.bind fun k1=>
 y91_1 M s f ((k1:Nat):Int) 0:=yq (by kernel_rfl)
theorem W0g(M:YM)(s f:U)(x7 x8:Int):y91_1 M s f x7 x8=
 (if(decide (x8<x7))=true then
 (s.idx 1 x8).bind fun v1=>
 (v1.cell 0).bind fun c2=>
 (c2.asI .i64).bind fun n3=>
 f.asF.bind fun g4=>
 (ycall M g4.1 (g4.2.1++[.c (.int .i64 n3)]++g4.2.2)).bind fun r5=>
 r5.toU.bind fun u6=>
 u6.asB.bind fun b7=>
 (if b7=true then
 some (.val (.c (.int .i64 x8)))
 else
 y91_1 M s f x7 (IntKind.wrap .i64 (x8+1)))
 else
 some (.val (.c (.int .i64 (-1))))):=yq (by kernel_rfl)
theorem Z1f(M:YM)(g of sets:U):y92 M g of sets=
 of.len.bind fun k1=>
 y92_1 M g of sets 0 of ((k1:Nat):Int) 0:=yq (by kernel_rfl)
theorem W0h(M:YM)(g of sets:U)(n:Int)(x22:U)(x23 x24:Int):y92_1 M g of sets n x22 x23 x24=
 (if(decide (x24<x23))=true then
 (x22.idx 1 x24).bind fun v1=>
 (v1.cell 0).bind fun c2=>
 (c2.asI .i64).bind fun n3=>
 y92_1 M g of sets (if(IntKind.wrap .i64 (n3+1))>n then(IntKind.wrap .i64 (n3+1))else n) x22 x23 (IntKind.wrap .i64 (x24+1))
 else
 (if 0<=n/\n<=2 ^ 36/\1=1 then
 g.len.bind fun k4=>
 y92_2 M g of sets n g ((k4:Nat):Int) 0 (⟨true,1,(List.replicate n.toNat (.c (.bool false)):List U)⟩:Sx)
 else
 none)):=yq (by kernel_rfl)
theorem W0i(M:YM)(g of sets:U)(n:Int)(x35:U)(x36 x37:Int)(inner:Sx):y92_2 M g of sets n x35 x36 x37 inner=
 (if(decide (x37<x36))=true then
 (x35.idx 1 x37).bind fun v1=>
 (v1.cell 0).bind fun c2=>
 c2.len.bind fun k3=>
 y92_3 M g of sets n x37 x35 x36 x37 c2 ((k3:Nat):Int) 0 inner
 else
 sets.len.bind fun k4=>
 y92_4 M g of n sets ((k4:Nat):Int) 0 inner):=yq (by kernel_rfl)
theorem W0j(M:YM)(g of sets:U)(n v:Int)(x35:U)(x36 x37:Int)(x42:U)(x43 x44:Int)(inner:Sx):y92_3 M g of sets n v x35 x36 x37 x42 x43 x44 inner=
 (if(decide (x44<x43))=true then
 (x42.idx 1 x44).bind fun v1=>
 (v1.cell 0).bind fun c2=>
 (c2.asI .i64).bind fun n3=>
 (of.idx 1 v).bind fun v4=>
 (of.idx 1 v).bind fun v5=>
 (v4.cell 0).bind fun c6=>
 (c6.asI .i64).bind fun n7=>
 (v5.cell 0).bind fun c8=>
 (c8.asI .i64).bind fun n9=>
 (if Sx.has inner 1 n9=true then
 ((inner.es)[n9.toNat]?).bind fun v10=>
 (v10.cell 0).bind fun c11=>
 c11.asB.bind fun b12=>
 (if b12=false then
 (of.idx 1 v).bind fun v13=>
 (of.idx 1 n3).bind fun v14=>
 (v13.cell 0).bind fun c15=>
 (c15.asI .i64).bind fun n16=>
 (v14.cell 0).bind fun c17=>
 (c17.asI .i64).bind fun n18=>
 some (decide (n16=n18))
 else
 some b12).bind fun q19=>
 (if Sx.has inner 1 n7=true then
 (Sx.put inner 1 n7.toNat 0 (.c (.bool q19))).bind fun s20=>
 y92_3 M g of sets n v x35 x36 x37 x42 x43 (IntKind.wrap .i64 (x44+1)) s20
 else
 none)
 else
 none)
 else
 y92_2 M g of sets n x35 x36 (IntKind.wrap .i64 (x37+1)) inner):=yq (by kernel_rfl)
theorem W0k(M:YM)(g of:U)(n:Int)(x74:U)(x75 x76:Int)(inner:Sx):y92_4 M g of n x74 x75 x76 inner=
 (if(decide (x76<x75))=true then
 (x74.idx 1 x76).bind fun v1=>
 (v1.cell 0).bind fun c2=>
 (if 0<=n/\n<=2 ^ 36/\1=1 then
 g.len.bind fun k3=>
 y92_5 M g of n c2 x74 x75 x76 ((k3:Nat):Int) 0 inner (⟨true,1,(List.replicate n.toNat (.c (.bool false)):List U)⟩:Sx)
 else
 none)
 else
 g.len.bind fun k4=>
 (if 0<=((k4:Nat):Int)/\((k4:Nat):Int)<=2 ^ 36/\1=1 then
 g.len.bind fun k5=>
 y92_7 M of ((k5:Nat):Int) 0 inner (⟨true,1,(List.replicate ((k4:Nat):Int).toNat (.c (.bool false)):List U)⟩:Sx)
 else
 none)):=yq (by kernel_rfl)
theorem W0l(M:YM)(g of:U)(n:Int)(s x74:U)(x75 x76 x83 x84:Int)(inner has:Sx):y92_5 M g of n s x74 x75 x76 x83 x84 inner has=
 (if(decide (x84<x83))=true then
 (of.idx 1 x84).bind fun v1=>
 (of.idx 1 x84).bind fun v2=>
 (v1.cell 0).bind fun c3=>
 (c3.asI .i64).bind fun n4=>
 (v2.cell 0).bind fun c5=>
 (c5.asI .i64).bind fun n6=>
 (if Sx.has has 1 n6=true then
 ((has.es)[n6.toNat]?).bind fun v7=>
 (v7.cell 0).bind fun c8=>
 c8.asB.bind fun b9=>
 (if b9=false then
 (s.idx 1 x84).bind fun v10=>
 (v10.cell 0).bind fun c11=>
 c11.asB.bind fun b12=>
 some b12
 else
 some b9).bind fun q13=>
 (if Sx.has has 1 n4=true then
 (Sx.put has 1 n4.toNat 0 (.c (.bool q13))).bind fun s14=>
 y92_5 M g of n s x74 x75 x76 x83 (IntKind.wrap .i64 (x84+1)) inner s14
 else
 none)
 else
 none)
 else
 y92_6 M g of n x74 x75 x76 (((inner.es).length:Nat):Int) 0 inner has):=yq (by kernel_rfl)
theorem W0m(M:YM)(of:U)(x131 x132:Int)(inner out:Sx):y92_7 M of x131 x132 inner out=
 (if(decide (x132<x131))=true then
 (of.idx 1 x132).bind fun v1=>
 (v1.cell 0).bind fun c2=>
 (c2.asI .i64).bind fun n3=>
 (if Sx.has inner 1 n3=true then
 ((inner.es)[n3.toNat]?).bind fun v4=>
 (v4.cell 0).bind fun c5=>
 c5.asB.bind fun b6=>
 (if Sx.has out 1 x132=true then
 (Sx.put out 1 x132.toNat 0 (.c (.bool b6))).bind fun s7=>
 y92_7 M of x131 (IntKind.wrap .i64 (x132+1)) inner s7
 else
 none)
 else
 none)
 else
 (if scals out.es=true then
 some (.sl out)
 else
 none)):=yq (by kernel_rfl)
theorem W0n(M:YM)(g of:U)(n:Int)(x74:U)(x75 x76 x108 x109:Int)(inner has:Sx):y92_6 M g of n x74 x75 x76 x108 x109 inner has=
 (if(decide (x109<x108))=true then
 (if Sx.has inner 1 x109=true then
 ((inner.es)[x109.toNat]?).bind fun v1=>
 (v1.cell 0).bind fun c2=>
 c2.asB.bind fun b3=>
 (if b3=true then
 (if Sx.has has 1 x109=true then
 ((has.es)[x109.toNat]?).bind fun v4=>
 (v4.cell 0).bind fun c5=>
 c5.asB.bind fun b6=>
 some b6
 else
 none)
 else
 some b3).bind fun q7=>
 (if Sx.has inner 1 x109=true then
 (Sx.put inner 1 x109.toNat 0 (.c (.bool q7))).bind fun s8=>
 y92_6 M g of n x74 x75 x76 x108 (IntKind.wrap .i64 (x109+1)) s8 has
 else
 none)
 else
 none)
 else
 y92_4 M g of n x74 x75 (IntKind.wrap .i64 (x76+1)) inner):=yq (by kernel_rfl)
theorem w1T(M:YM)(n:Int):y106 M n=
 (y107 M n 0 4095).bind fun r1=>
 r1.toU.bind fun u2=>
 u2.asB.bind fun b3=>
 some (.val (.c (.bool (!b3)))):=yq (by kernel_rfl)
theorem w1U(M:YM)(n vfrom to:Int):y107 M n vfrom to=
 (if(decide (vfrom<=n))=true then
 some (decide (n<=to))
 else
 some (decide (vfrom<=n))).bind fun q1=>
 some (.val (.c (.bool q1))):=yq (by kernel_rfl)
theorem w1V(M:YM)(is:Bool)(code:Int):y108 M is code=
 (if is=true then
 some (.val (.c (.int .i64 code)))
 else
 some (.val (.c (.int .i64 0)))):=yq (by kernel_rfl)
theorem Y0L(M:YM)(x y:Int):y110 M x y=
 (y115 M x y).bind fun r1=>
 r1.asTup.bind fun t2=>
 (t2[0]?).bind fun u3=>
 (U.asI .u64 u3).bind fun n4=>
 (t2[1]?).bind fun u5=>
 (U.asI .u64 u5).bind fun n6=>
 some (.tup [.c (.int .u64 n4), .c (.int .u64 n6)]):=yq (by kernel_rfl)
theorem Y0M(M:YM)(x y:Int):y115 M x y=
 some (.tup [.c (.int .u64 (IntKind.wrap .u64 ((IntKind.wrap .u64 ((IntKind.wrap .u64 ((shI .shr .u64 x 32)*(shI .shr .u64 y 32)))+(shI .shr .u64 (IntKind.wrap .u64 ((IntKind.wrap .u64 ((shI .shr .u64 x 32)*(bitI .and .u64 y 4294967295)))+(shI .shr .u64 (IntKind.wrap .u64 ((bitI .and .u64 x 4294967295)*(bitI .and .u64 y 4294967295))) 32))) 32)))+(shI .shr .u64 (IntKind.wrap .u64 ((bitI .and .u64 (IntKind.wrap .u64 ((IntKind.wrap .u64 ((shI .shr .u64 x 32)*(bitI .and .u64 y 4294967295)))+(shI .shr .u64 (IntKind.wrap .u64 ((bitI .and .u64 x 4294967295)*(bitI .and .u64 y 4294967295))) 32))) 4294967295)+(IntKind.wrap .u64 ((bitI .and .u64 x 4294967295)*(shI .shr .u64 y 32))))) 32)))), .c (.int .u64 (IntKind.wrap .u64 (x*y)))]):=yq (by kernel_rfl)
end
def seenC(H:Heap)(i o:Nat)(kd:K0)(u:V):Bool:=match(H.ld i o).bind fun x=>kd.take x fun y=>some (V.c y)with
 |some v=>eqV v u
 |none=>false
def seenA(H:Heap)(i o:Nat)(ks:List K0)(u:V):Bool:=match H.lds i o ks fun cs=>some (V.agg cs)with
 |some v=>eqV v u
 |none=>false
def ez(n:Nat)(l:List (Nat×T)):Env:=(List.range n).map fun p=>(l.lookup p).getD .poison
noncomputable def mrun(M:Mach):RunT:=Vm.run M.ext (progOf 8 prog M.out) M.lim
noncomputable def mcall(M:Mach)(f:FuncId)(vs:List V)(H:Heap):Rs:=mrun M f 0 (vs.map .val) H
noncomputable def f4(M:Mach)(a_0:Int)(a_1:C)(a_2:C)(a_3:C)(w_0:C)(w_1:C)(H:Heap):Rs:=mrun M 4 0 [.val (.agg [(.int .i64 a_0),a_1,a_2,a_3]), .val (.agg [w_0,w_1])] H
noncomputable def f4_1(M:Mach)(a_0:Int)(a_1:C)(a_2:C)(a_3:C)(w_0:C)(w_1:C)(is:Bool)(e:Int)(run_0:C)(run_1:C)(f:Int)(c:Int)(H:Heap):Rs:=mrun M 4 1 (ez 117 [(2, .loc [(.int .i64 a_0),a_1,a_2,a_3]),(3, .loc [w_0,w_1]),(5, .val (.c (.bool is))),(6, .val (.c (.int .i64 e))),(7, .loc [run_0,run_1]),(8, .val (.c (.int .i64 f))),(9, .val (.c (.int .i64 c)))]) H
noncomputable def f16(M:Mach)(a_0:Int)(a_1:C)(a_2:C)(a_3:C)(w_0:C)(w_1:C)(H:Heap):Rs:=mrun M 16 0 [.val (.agg [(.int .i64 a_0),a_1,a_2,a_3]), .val (.agg [w_0,w_1])] H
noncomputable def f16_1(M:Mach)(a_0:Int)(a_1:C)(a_2:C)(a_3:C)(w_0:C)(w_1:C)(n:Int)(next:C)(p:Int)(H:Heap):Rs:=mrun M 16 1 (ez 150 [(2, .loc [(.int .i64 a_0),a_1,a_2,a_3]),(3, .loc [w_0,w_1]),(5, .val (.c (.int .i64 n))),(6, .val (.c next)),(7, .val (.c (.int .i64 p)))]) H
noncomputable def f16_2(M:Mach)(a_0:Int)(a_1:C)(a_2:C)(a_3:C)(w_0:C)(w_1:C)(n:Int)(next:C)(p:Int)(to:Int)(H:Heap):Rs:=mrun M 16 2 (ez 150 [(2, .loc [(.int .i64 a_0),a_1,a_2,a_3]),(3, .loc [w_0,w_1]),(5, .val (.c (.int .i64 n))),(6, .val (.c next)),(7, .val (.c (.int .i64 p))),(8, .val (.c (.int .i64 to)))]) H
noncomputable def f16_5(M:Mach)(a_0:Int)(a_1:C)(a_2:C)(a_3:C)(n:Int)(next:C)(sets:C)(k:Int)(H:Heap):Rs:=mrun M 16 5 (ez 150 [(2, .loc [(.int .i64 a_0),a_1,a_2,a_3]),(5, .val (.c (.int .i64 n))),(6, .val (.c next)),(11, .val (.c sets)),(12, .val (.c (.int .i64 k)))]) H
noncomputable def f16_3(M:Mach)(a_0:Int)(a_1:C)(a_2:C)(a_3:C)(w_0:C)(w_1:C)(n:Int)(next:C)(p:Int)(to:Int)(i:Int)(H:Heap):Rs:=mrun M 16 3 (ez 150 [(2, .loc [(.int .i64 a_0),a_1,a_2,a_3]),(3, .loc [w_0,w_1]),(5, .val (.c (.int .i64 n))),(6, .val (.c next)),(7, .val (.c (.int .i64 p))),(8, .val (.c (.int .i64 to))),(9, .val (.c (.int .i64 i)))]) H
noncomputable def f16_6(M:Mach)(a_0:Int)(a_1:C)(a_2:C)(a_3:C)(n:Int)(next:C)(sets:C)(k:Int)(own:C)(i:Int)(H:Heap):Rs:=mrun M 16 6 (ez 150 [(2, .loc [(.int .i64 a_0),a_1,a_2,a_3]),(5, .val (.c (.int .i64 n))),(6, .val (.c next)),(11, .val (.c sets)),(12, .val (.c (.int .i64 k))),(13, .val (.c own)),(14, .val (.c (.int .i64 i)))]) H
noncomputable def f16_8(M:Mach)(a_0:Int)(a_1:C)(a_2:C)(a_3:C)(n:Int)(vin:C)(i:Int)(H:Heap):Rs:=mrun M 16 8 (ez 150 [(2, .loc [(.int .i64 a_0),a_1,a_2,a_3]),(5, .val (.c (.int .i64 n))),(16, .val (.c vin)),(17, .val (.c (.int .i64 i)))]) H
noncomputable def f16_4(M:Mach)(a_0:Int)(a_1:C)(a_2:C)(a_3:C)(w_0:C)(w_1:C)(n:Int)(next:C)(p:Int)(to:Int)(i:Int)(H:Heap):Rs:=mrun M 16 4 (ez 150 [(2, .loc [(.int .i64 a_0),a_1,a_2,a_3]),(3, .loc [w_0,w_1]),(5, .val (.c (.int .i64 n))),(6, .val (.c next)),(7, .val (.c (.int .i64 p))),(8, .val (.c (.int .i64 to))),(9, .val (.c (.int .i64 i)))]) H
noncomputable def f16_7(M:Mach)(a_0:Int)(a_1:C)(a_2:C)(a_3:C)(n:Int)(next:C)(sets:C)(k:Int)(own:C)(i:Int)(p:Int)(H:Heap):Rs:=mrun M 16 7 (ez 150 [(2, .loc [(.int .i64 a_0),a_1,a_2,a_3]),(5, .val (.c (.int .i64 n))),(6, .val (.c next)),(11, .val (.c sets)),(12, .val (.c (.int .i64 k))),(13, .val (.c own)),(14, .val (.c (.int .i64 i))),(15, .val (.c (.int .i64 p)))]) H
noncomputable def f18(M:Mach)(a_0:Int)(a_1:C)(a_2:C)(a_3:C)(w_0:C)(w_1:C)(H:Heap):Rs:=mrun M 18 0 [.val (.agg [(.int .i64 a_0),a_1,a_2,a_3]), .val (.agg [w_0,w_1])] H
noncomputable def f20(M:Mach)(a_0:Int)(a_1:C)(a_2:C)(a_3:C)(w_0:C)(w_1:C)(H:Heap):Rs:=mrun M 20 0 [.val (.agg [(.int .i64 a_0),a_1,a_2,a_3]), .val (.agg [w_0,w_1])] H
noncomputable def f45(M:Mach)(a_0:Int)(a_1:C)(a_2:C)(a_3:C)(w_0:C)(w_1:C)(H:Heap):Rs:=mrun M 45 0 [.val (.agg [(.int .i64 a_0),a_1,a_2,a_3]), .val (.agg [w_0,w_1])] H
noncomputable def f46(M:Mach)(a_0:Int)(a_1:C)(a_2:C)(a_3:C)(w_0:C)(w_1:C)(H:Heap):Rs:=mrun M 46 0 [.val (.agg [(.int .i64 a_0),a_1,a_2,a_3]), .val (.agg [w_0,w_1])] H
noncomputable def f46_1(M:Mach)(a:C)(x4_0:Int)(x4_1:C)(x4_2:C)(x4_3:C)(x4_4:C)(x4_5:Int)(x4_6:C)(x4_7:C)(x4_8:C)(p_0:Int)(p_1:C)(p_2:C)(p_3:C)(p_4:C)(p_5:Int)(p_6:C)(p_7:C)(p_8:C)(x36:C)(x37:Int)(x38:Int)(H:Heap):Rs:=mrun M 46 1 (ez 109 [(2, .val (.c a)),(4, .loc [(.int .i64 x4_0),x4_1,x4_2,x4_3,x4_4,(.int .i64 x4_5),x4_6,x4_7,x4_8]),(5, .loc [(.int .i64 p_0),p_1,p_2,p_3,p_4,(.int .i64 p_5),p_6,p_7,p_8]),(36, .val (.c x36)),(37, .val (.c (.int .i64 x37))),(38, .val (.c (.int .i64 x38)))]) H
noncomputable def f46_2(M:Mach)(a:C)(x4_0:Int)(x4_1:C)(x4_2:C)(x4_3:C)(x4_4:C)(x4_5:Int)(x4_6:C)(x4_7:C)(x4_8:C)(p_0:Int)(p_1:C)(p_2:C)(p_3:C)(p_4:C)(p_5:Int)(p_6:C)(p_7:C)(p_8:C)(i:Int)(letter:Int)(next:Int)(x36:C)(x37:Int)(x38:Int)(H:Heap):Rs:=mrun M 46 2 (ez 109 [(2, .val (.c a)),(4, .loc [(.int .i64 x4_0),x4_1,x4_2,x4_3,x4_4,(.int .i64 x4_5),x4_6,x4_7,x4_8]),(5, .loc [(.int .i64 p_0),p_1,p_2,p_3,p_4,(.int .i64 p_5),p_6,p_7,p_8]),(6, .val (.c (.int .i64 i))),(7, .val (.c (.int .i64 letter))),(8, .val (.c (.int .i64 next))),(36, .val (.c x36)),(37, .val (.c (.int .i64 x37))),(38, .val (.c (.int .i64 x38)))]) H
noncomputable def f46_5(M:Mach)(a:C)(x4_0:Int)(x4_1:C)(x4_2:C)(x4_3:C)(x4_4:C)(x4_5:Int)(x4_6:C)(x4_7:C)(x4_8:C)(p_0:Int)(p_1:C)(p_2:C)(p_3:C)(p_4:C)(p_5:Int)(p_6:C)(p_7:C)(p_8:C)(x90:C)(x91:Int)(x92:Int)(H:Heap):Rs:=mrun M 46 5 (ez 109 [(2, .val (.c a)),(4, .loc [(.int .i64 x4_0),x4_1,x4_2,x4_3,x4_4,(.int .i64 x4_5),x4_6,x4_7,x4_8]),(5, .loc [(.int .i64 p_0),p_1,p_2,p_3,p_4,(.int .i64 p_5),p_6,p_7,p_8]),(90, .val (.c x90)),(91, .val (.c (.int .i64 x91))),(92, .val (.c (.int .i64 x92)))]) H
noncomputable def f46_3(M:Mach)(a:C)(x4_0:Int)(x4_1:C)(x4_2:C)(x4_3:C)(x4_4:C)(x4_5:Int)(x4_6:C)(x4_7:C)(x4_8:C)(p_0:Int)(p_1:C)(p_2:C)(p_3:C)(p_4:C)(p_5:Int)(p_6:C)(p_7:C)(p_8:C)(i:Int)(letter:Int)(next:Int)(x36:C)(x37:Int)(x38:Int)(x53:C)(x54:Int)(x55:Int)(H:Heap):Rs:=mrun M 46 3 (ez 109 [(2, .val (.c a)),(4, .loc [(.int .i64 x4_0),x4_1,x4_2,x4_3,x4_4,(.int .i64 x4_5),x4_6,x4_7,x4_8]),(5, .loc [(.int .i64 p_0),p_1,p_2,p_3,p_4,(.int .i64 p_5),p_6,p_7,p_8]),(6, .val (.c (.int .i64 i))),(7, .val (.c (.int .i64 letter))),(8, .val (.c (.int .i64 next))),(36, .val (.c x36)),(37, .val (.c (.int .i64 x37))),(38, .val (.c (.int .i64 x38))),(53, .val (.c x53)),(54, .val (.c (.int .i64 x54))),(55, .val (.c (.int .i64 x55)))]) H
noncomputable def f46_4(M:Mach)(a:C)(x4_0:Int)(x4_1:C)(x4_2:C)(x4_3:C)(x4_4:C)(x4_5:Int)(x4_6:C)(x4_7:C)(x4_8:C)(p_0:Int)(p_1:C)(p_2:C)(p_3:C)(p_4:C)(p_5:Int)(p_6:C)(p_7:C)(p_8:C)(i:Int)(letter:Int)(next:Int)(x36:C)(x37:Int)(x38:Int)(x53:C)(x54:Int)(x55:Int)(H:Heap):Rs:=mrun M 46 4 (ez 109 [(2, .val (.c a)),(4, .loc [(.int .i64 x4_0),x4_1,x4_2,x4_3,x4_4,(.int .i64 x4_5),x4_6,x4_7,x4_8]),(5, .loc [(.int .i64 p_0),p_1,p_2,p_3,p_4,(.int .i64 p_5),p_6,p_7,p_8]),(6, .val (.c (.int .i64 i))),(7, .val (.c (.int .i64 letter))),(8, .val (.c (.int .i64 next))),(36, .val (.c x36)),(37, .val (.c (.int .i64 x37))),(38, .val (.c (.int .i64 x38))),(53, .val (.c x53)),(54, .val (.c (.int .i64 x54))),(55, .val (.c (.int .i64 x55)))]) H
noncomputable def f47(M:Mach)(p_0:Int)(p_1:C)(p_2:C)(p_3:C)(p_4:C)(p_5:Int)(p_6:C)(p_7:C)(p_8:C)(H:Heap):Rs:=mrun M 47 0 [.val (.agg [(.int .i64 p_0),p_1,p_2,p_3,p_4,(.int .i64 p_5),p_6,p_7,p_8])] H
noncomputable def f61(M:Mach)(s:C)(f:C)(H:Heap):Rs:=mrun M 61 0 [.val (.c s), .val (.c f)] H
noncomputable def f73(M:Mach)(g:C)(first:C)(sets:C)(mayBegin:C)(H:Heap):Rs:=mrun M 73 0 [.val (.c g), .val (.c first), .val (.c sets), .val (.c mayBegin)] H
noncomputable def f73_1(M:Mach)(g:C)(loop:C)(path:C)(begin:C)(inside:C)(x49:C)(x50:Int)(x51:Int)(H:Heap):Rs:=mrun M 73 1 (ez 100 [(0, .val (.c g)),(9, .val (.c loop)),(14, .val (.c path)),(16, .val (.c begin)),(17, .val (.c inside)),(49, .val (.c x49)),(50, .val (.c (.int .i64 x50))),(51, .val (.c (.int .i64 x51)))]) H
noncomputable def f82(M:Mach)(next:C)(H:Heap):Rs:=mrun M 82 0 [.val (.c next)] H
noncomputable def f82_1(M:Mach)(next:C)(out:C)(i:Int)(H:Heap):Rs:=mrun M 82 1 (ez 47 [(0, .val (.c next)),(3, .val (.c out)),(4, .val (.c (.int .i64 i)))]) H
noncomputable def f82_2(M:Mach)(next:C)(out:C)(i:Int)(k:Int)(H:Heap):Rs:=mrun M 82 2 (ez 47 [(0, .val (.c next)),(3, .val (.c out)),(4, .val (.c (.int .i64 i))),(5, .val (.c (.int .i64 k)))]) H
noncomputable def f85(M:Mach)(l:C)(nodes:Int)(stateOf:C)(H:Heap):Rs:=mrun M 85 0 [.val (.c l), .val (.c (.int .i64 nodes)), .val (.c stateOf)] H
noncomputable def f87(M:Mach)(v:Int)(x1:C)(H:Heap):Rs:=mrun M 87 0 [.val (.c (.int .i64 v)), .val (.c x1)] H
noncomputable def f88(M:Mach)(l:C)(x1:C)(H:Heap):Rs:=mrun M 88 0 [.val (.c l), .val (.c x1)] H
noncomputable def f88_1(M:Mach)(x1:C)(out:C)(x7:C)(x8:Int)(x9:Int)(H:Heap):Rs:=mrun M 88 1 (ez 23 [(1, .val (.c x1)),(4, .val (.c out)),(7, .val (.c x7)),(8, .val (.c (.int .i64 x8))),(9, .val (.c (.int .i64 x9)))]) H
noncomputable def f91(M:Mach)(s:C)(f:C)(H:Heap):Rs:=mrun M 91 0 [.val (.c s), .val (.c f)] H
noncomputable def f91_1(M:Mach)(s:C)(f:C)(x7:Int)(x8:Int)(H:Heap):Rs:=mrun M 91 1 (ez 19 [(0, .val (.c s)),(1, .val (.c f)),(7, .val (.c (.int .i64 x7))),(8, .val (.c (.int .i64 x8)))]) H
noncomputable def f93(M:Mach)(g:C)(H:Heap):Rs:=mrun M 93 0 [.val (.c g)] H
noncomputable def f93_1(M:Mach)(c:C)(x19:Int)(x20:Int)(H:Heap):Rs:=mrun M 93 1 (ez 39 [(3, .val (.c c)),(19, .val (.c (.int .i64 x19))),(20, .val (.c (.int .i64 x20)))]) H
noncomputable def f93_2(M:Mach)(c:C)(x19:Int)(x20:Int)(H:Heap):Rs:=mrun M 93 2 (ez 39 [(3, .val (.c c)),(19, .val (.c (.int .i64 x19))),(20, .val (.c (.int .i64 x20)))]) H
noncomputable def f95(M:Mach)(x:C)(count:Int)(H:Heap):Rs:=mrun M 95 0 [.val (.c x), .val (.c (.int .i64 count))] H
noncomputable def f95_1(M:Mach)(x:C)(count:Int)(H:Heap):Rs:=mrun M 95 1 (ez 48 [(0, .val (.c x)),(1, .val (.c (.int .i64 count)))]) H
noncomputable def f95_2(M:Mach)(x:C)(lo:Int)(H:Heap):Rs:=mrun M 95 2 (ez 48 [(0, .val (.c x)),(6, .val (.c (.int .u64 lo)))]) H
noncomputable def f95_3(M:Mach)(newslice:C)(n:Int)(H:Heap):Rs:=mrun M 95 3 (ez 48 [(7, .val (.c newslice)),(8, .val (.c (.int .i64 n)))]) H
noncomputable def f98(M:Mach)(x0:Int)(H:Heap):Rs:=mrun M 98 0 [.val (.c (.int .i64 x0))] H
noncomputable def f99(M:Mach)(g:C)(vfrom:C)(j0r:Int)(permitted:C)(asked:C)(H:Heap):Rs:=mrun M 99 0 [.val (.c g), .val (.c vfrom), .val (.c (.int .i64 j0r)), .val (.c permitted), .val (.c asked)] H
noncomputable def f99_1(M:Mach)(g:C)(j0r:Int)(permitted:C)(asked:C)(before:C)(queue:C)(back:C)(x25:C)(x26:Int)(x27:Int)(H:Heap):Rs:=mrun M 99 1 (ez 97 [(0, .val (.c g)),(2, .val (.c (.int .i64 j0r))),(3, .val (.c permitted)),(4, .val (.c asked)),(12, .val (.c before)),(13, .val (.c queue)),(14, .val (.c back)),(25, .val (.c x25)),(26, .val (.c (.int .i64 x26))),(27, .val (.c (.int .i64 x27)))]) H
noncomputable def f99_2(M:Mach)(g:C)(j0r:Int)(permitted:C)(asked:C)(before:C)(queue:C)(back:C)(x25:C)(x26:Int)(x27:Int)(H:Heap):Rs:=mrun M 99 2 (ez 97 [(0, .val (.c g)),(2, .val (.c (.int .i64 j0r))),(3, .val (.c permitted)),(4, .val (.c asked)),(12, .val (.c before)),(13, .val (.c queue)),(14, .val (.c back)),(25, .val (.c x25)),(26, .val (.c (.int .i64 x26))),(27, .val (.c (.int .i64 x27)))]) H
noncomputable def f99_3(M:Mach)(g:C)(permitted:C)(asked:C)(before:C)(queue:C)(back:C)(H:Heap):Rs:=mrun M 99 3 (ez 97 [(0, .val (.c g)),(3, .val (.c permitted)),(4, .val (.c asked)),(12, .val (.c before)),(13, .val (.c queue)),(14, .val (.c back))]) H
noncomputable def f99_4(M:Mach)(g:C)(permitted:C)(asked:C)(before:C)(queue:C)(back:C)(v:Int)(x64:C)(x65:Int)(x66:Int)(H:Heap):Rs:=mrun M 99 4 (ez 97 [(0, .val (.c g)),(3, .val (.c permitted)),(4, .val (.c asked)),(12, .val (.c before)),(13, .val (.c queue)),(14, .val (.c back)),(17, .val (.c (.int .i64 v))),(64, .val (.c x64)),(65, .val (.c (.int .i64 x65))),(66, .val (.c (.int .i64 x66)))]) H
noncomputable def f99_5(M:Mach)(g:C)(permitted:C)(asked:C)(before:C)(queue:C)(back:C)(v:Int)(x64:C)(x65:Int)(x66:Int)(H:Heap):Rs:=mrun M 99 5 (ez 97 [(0, .val (.c g)),(3, .val (.c permitted)),(4, .val (.c asked)),(12, .val (.c before)),(13, .val (.c queue)),(14, .val (.c back)),(17, .val (.c (.int .i64 v))),(64, .val (.c x64)),(65, .val (.c (.int .i64 x65))),(66, .val (.c (.int .i64 x66)))]) H
noncomputable def f100(M:Mach)(v:Int)(x1:C)(x2:C)(H:Heap):Rs:=mrun M 100 0 [.val (.c (.int .i64 v)), .val (.c x1), .val (.c x2)] H
noncomputable def f101(M:Mach)(v:Int)(x1:C)(x2:C)(H:Heap):Rs:=mrun M 101 0 [.val (.c (.int .i64 v)), .val (.c x1), .val (.c x2)] H
noncomputable def f102(M:Mach)(v:Int)(x1:C)(H:Heap):Rs:=mrun M 102 0 [.val (.c (.int .i64 v)), .val (.c x1)] H
noncomputable def f103(M:Mach)(v:Int)(x1:C)(H:Heap):Rs:=mrun M 103 0 [.val (.c (.int .i64 v)), .val (.c x1)] H
noncomputable def f104(M:Mach)(v:Int)(x1:C)(H:Heap):Rs:=mrun M 104 0 [.val (.c (.int .i64 v)), .val (.c x1)] H
noncomputable def f109(M:Mach)(c:C)(v:Int)(H:Heap):Rs:=mrun M 109 0 [.val (.c c), .val (.c (.int .i64 v))] H
noncomputable def f109_1(M:Mach)(c:C)(v:Int)(x51:C)(x52:Int)(x53:Int)(H:Heap):Rs:=mrun M 109 1 (ez 178 [(0, .val (.c c)),(1, .val (.c (.int .i64 v))),(51, .val (.c x51)),(52, .val (.c (.int .i64 x52))),(53, .val (.c (.int .i64 x53)))]) H
noncomputable def f109_2(M:Mach)(c:C)(v:Int)(x51:C)(x52:Int)(x53:Int)(H:Heap):Rs:=mrun M 109 2 (ez 178 [(0, .val (.c c)),(1, .val (.c (.int .i64 v))),(51, .val (.c x51)),(52, .val (.c (.int .i64 x52))),(53, .val (.c (.int .i64 x53)))]) H
noncomputable def f109_3(M:Mach)(c:C)(v:Int)(x51:C)(x52:Int)(x53:Int)(H:Heap):Rs:=mrun M 109 3 (ez 178 [(0, .val (.c c)),(1, .val (.c (.int .i64 v))),(51, .val (.c x51)),(52, .val (.c (.int .i64 x52))),(53, .val (.c (.int .i64 x53)))]) H
noncomputable def f109_4(M:Mach)(c:C)(v:Int)(H:Heap):Rs:=mrun M 109 4 (ez 178 [(0, .val (.c c)),(1, .val (.c (.int .i64 v)))]) H
noncomputable def f111(M:Mach)(v:Int)(x1:C)(H:Heap):Rs:=mrun M 111 0 [.val (.c (.int .i64 v)), .val (.c x1)] H
noncomputable def f111_1(M:Mach)(v:Int)(x1:C)(out:C)(H:Heap):Rs:=mrun M 111 1 (ez 18 [(0, .val (.c (.int .i64 v))),(1, .val (.c x1)),(4, .val (.c out))]) H
noncomputable def f112(M:Mach)(s:C)(H:Heap):Rs:=mrun M 112 0 [.val (.c s)] H
noncomputable def f112_1(M:Mach)(s:C)(i:Int)(j:Int)(H:Heap):Rs:=mrun M 112 1 (ez 28 [(0, .val (.c s)),(2, .val (.c (.int .i64 i))),(3, .val (.c (.int .i64 j)))]) H
noncomputable def f11(M:Mach)(a_0:Int)(a_1:C)(a_2:C)(a_3:C)(H:Heap):Rs:=mrun M 11 0 [.val (.agg [(.int .i64 a_0),a_1,a_2,a_3])] H
noncomputable def f110(M:Mach)(x:Int)(y:Int)(H:Heap):Rs:=mrun M 110 0 [.val (.c (.int .u64 x)), .val (.c (.int .u64 y))] H
noncomputable def f12(M:Mach)(a_0:Int)(a_1:C)(a_2:C)(a_3:C)(H:Heap):Rs:=mrun M 12 0 [.val (.agg [(.int .i64 a_0),a_1,a_2,a_3])] H
noncomputable def f15(M:Mach)(w_0:C)(w_1:C)(H:Heap):Rs:=mrun M 15 0 [.val (.agg [w_0,w_1])] H
noncomputable def f17(M:Mach)(w_0:C)(w_1:C)(H:Heap):Rs:=mrun M 17 0 [.val (.agg [w_0,w_1])] H
noncomputable def f19(M:Mach)(w_0:C)(w_1:C)(H:Heap):Rs:=mrun M 19 0 [.val (.agg [w_0,w_1])] H
noncomputable def f21(M:Mach)(a_0:C)(a_1:C)(b_0:C)(b_1:C)(H:Heap):Rs:=mrun M 21 0 [.val (.agg [a_0,a_1]), .val (.agg [b_0,b_1])] H
noncomputable def f22(M:Mach)(a_0:Int)(a_1:C)(a_2:C)(a_3:C)(w_0:C)(w_1:C)(run_0:C)(run_1:C)(H:Heap):Rs:=mrun M 22 0 [.val (.agg [(.int .i64 a_0),a_1,a_2,a_3]), .val (.agg [w_0,w_1]), .val (.agg [run_0,run_1])] H
noncomputable def f42(M:Mach)(w_0:C)(w_1:C)(vat:Int)(H:Heap):Rs:=mrun M 42 0 [.val (.agg [w_0,w_1]), .val (.c (.int .i64 vat))] H
noncomputable def f43(M:Mach)(x_0:Int)(x_1:Int)(x_2:Int)(x_3:Int)(letter:Int)(H:Heap):Rs:=mrun M 43 0 [.val (.agg [(.int .i64 x_0),(.int .i64 x_1),(.int .i64 x_2),(.int .i64 x_3)]), .val (.c (.int .i64 letter))] H
noncomputable def f44(M:Mach)(next:C)(sets:C)(H:Heap):Rs:=mrun M 44 0 [.val (.c next), .val (.c sets)] H
noncomputable def f54(M:Mach)(slices:C)(H:Heap):Rs:=mrun M 54 0 [.val (.c slices)] H
noncomputable def f60(M:Mach)(x_0:Int)(x_1:Int)(x_2:Int)(x_3:Int)(letter:Int)(H:Heap):Rs:=mrun M 60 0 [.val (.agg [(.int .i64 x_0),(.int .i64 x_1),(.int .i64 x_2),(.int .i64 x_3)]), .val (.c (.int .i64 letter))] H
noncomputable def f8(M:Mach)(H:Heap):Rs:=mrun M 8 0 [] H
noncomputable def f9(M:Mach)(a_0:Int)(a_1:C)(a_2:C)(a_3:C)(H:Heap):Rs:=mrun M 9 0 [.val (.agg [(.int .i64 a_0),a_1,a_2,a_3])] H
noncomputable def f92(M:Mach)(g:C)(of:C)(sets:C)(H:Heap):Rs:=mrun M 92 0 [.val (.c g), .val (.c of), .val (.c sets)] H
theorem Z0X(M:Mach)(a_0:Int)(a_1:C)(a_2:C)(a_3:C)(w_0:C)(w_1:C)(H:Heap):f4 M a_0 a_1 a_2 a_3 w_0 w_1 H=
 (f8 M H).bind fun q1=>
 (V.asC q1.1).bind fun c2=>
 (C.asB c2).bind fun b3=>
 (if(!b3)=true then
 some ((.c (.bool false)),q1.2)
 else
 (f9 M a_0 a_1 a_2 a_3 q1.2).bind fun q4=>
 (V.asC q4.1).bind fun c5=>
 (C.asB c5).bind fun b6=>
 (if(!b6)=false then
 (f17 M w_0 w_1 q4.2).bind fun q8=>
 (V.asC q8.1).bind fun c9=>
 (C.asB c9).bind fun b10=>
 some (!b10,q8.2)
 else
 some (!b6,q4.2)).bind fun q7=>
 (if q7.1=false then
 (C.len w_0).bind fun k12=>
 (C.len w_1).bind fun k13=>
 (if(decide (12<(IntKind.wrap .i64 (((k12:Nat):Int)+((k13:Nat):Int)))))=true then
 (f15 M w_0 w_1 q7.2).bind fun q15=>
 (V.asC q15.1).bind fun c16=>
 (C.asI .i64 c16).bind fun n17=>
 some (decide (n17=0),q15.2)
 else
 some (decide (12<(IntKind.wrap .i64 (((k12:Nat):Int)+((k13:Nat):Int)))),q7.2)).bind fun q14=>
 some (q14.1,q14.2)
 else
 some (q7.1,q7.2)).bind fun q11=>
 (if q11.1=true then
 some ((.c (.bool true)),q11.2)
 else
 (f11 M a_0 a_1 a_2 a_3 q11.2).bind fun q18=>
 (V.asA q18.1).bind fun c19=>
 (headC c19).bind fun c20=>
 (C.asI .i64 c20).bind fun n21=>
 (headC (c19.drop 1)).bind fun c22=>
 (headC ((c19.drop 1).drop 1)).bind fun c23=>
 (headC (((c19.drop 1).drop 1).drop 1)).bind fun c24=>
 (if(((((c19.drop 1).drop 1).drop 1).drop 1)).length=0 then
 (f19 M w_0 w_1 q18.2).bind fun q25=>
 (V.asA q25.1).bind fun c26=>
 (headC c26).bind fun c27=>
 (headC (c26.drop 1)).bind fun c28=>
 (if(((c26.drop 1).drop 1)).length=0 then
 (f18 M n21 c22 c23 c24 c27 c28 q25.2).bind fun q29=>
 (V.ext q29.1 0).bind fun v30=>
 (V.asC v30).bind fun c31=>
 (C.asB c31).bind fun b32=>
 (V.ext q29.1 1).bind fun v33=>
 (V.asC v33).bind fun c34=>
 (C.asI .i64 c34).bind fun n35=>
 (f11 M a_0 a_1 a_2 a_3 q29.2).bind fun q36=>
 (V.asA q36.1).bind fun c37=>
 (headC c37).bind fun c38=>
 (C.asI .i64 c38).bind fun n39=>
 (headC (c37.drop 1)).bind fun c40=>
 (headC ((c37.drop 1).drop 1)).bind fun c41=>
 (headC (((c37.drop 1).drop 1).drop 1)).bind fun c42=>
 (if(((((c37.drop 1).drop 1).drop 1).drop 1)).length=0 then
 (f19 M w_0 w_1 q36.2).bind fun q43=>
 (V.asA q43.1).bind fun c44=>
 (headC c44).bind fun c45=>
 (headC (c44.drop 1)).bind fun c46=>
 (if(((c44.drop 1).drop 1)).length=0 then
 (f20 M n39 c40 c41 c42 c45 c46 q43.2).bind fun q47=>
 (V.ext q47.1 0).bind fun v48=>
 (V.asA v48).bind fun c49=>
 (headC c49).bind fun c50=>
 (headC (c49.drop 1)).bind fun c51=>
 (if(((c49.drop 1).drop 1)).length=0 then
 (V.ext q47.1 1).bind fun v52=>
 (V.asC v52).bind fun c53=>
 (C.asI .i64 c53).bind fun n54=>
 (f12 M a_0 a_1 a_2 a_3 q47.2).bind fun q55=>
 (V.asC q55.1).bind fun c56=>
 (C.asI .i64 c56).bind fun n57=>
 (if(decide (n57=0))=true then
 (f15 M w_0 w_1 q55.2).bind fun q58=>
 (V.asC q58.1).bind fun c59=>
 (C.asI .i64 c59).bind fun n60=>
 f4_1 M a_0 a_1 a_2 a_3 w_0 w_1 b32 n35 c50 c51 n54 n60 q58.2
 else
 f4_1 M a_0 a_1 a_2 a_3 w_0 w_1 b32 n35 c50 c51 n54 n57 q55.2)
 else
 none)
 else
 none)
 else
 none)
 else
 none)
 else
 none))):=by
 unfold f4 mrun;rw[q0f];kernel_rfl
theorem Z0Y(M:Mach)(a_0:Int)(a_1:C)(a_2:C)(a_3:C)(w_0:C)(w_1:C)(is:Bool)(e:Int)(run_0:C)(run_1:C)(f:Int)(c:Int)(H:Heap):f4_1 M a_0 a_1 a_2 a_3 w_0 w_1 is e run_0 run_1 f c H=
 (if(!decide (c=0))=true then
 (if(decide (e=c))=true then
 some (!is,H)
 else
 some (decide (e=c),H)).bind fun q1=>
 (if q1.1=true then
 some (decide (f=c),q1.2)
 else
 some (q1.1,q1.2)).bind fun q2=>
 (if q2.1=true then
 (f21 M run_0 run_1 .nilSlice .nilSlice q2.2).bind fun q4=>
 (V.asC q4.1).bind fun c5=>
 (C.asB c5).bind fun b6=>
 some (b6,q4.2)
 else
 some (q2.1,q2.2)).bind fun q3=>
 some ((.c (.bool q3.1)),q3.2)
 else
 (f16 M a_0 a_1 a_2 a_3 w_0 w_1 H).bind fun q7=>
 (V.asC q7.1).bind fun c8=>
 (C.asB c8).bind fun b9=>
 (if(!decide (e=0))=false then
 some ((is==b9)!=true,q7.2)
 else
 some (!decide (e=0),q7.2)).bind fun q10=>
 (if q10.1=true then
 some ((.c (.bool false)),q10.2)
 else
 (if(!b9)=true then
 (if(decide (f=25))=true then
 (f21 M run_0 run_1 .nilSlice .nilSlice q10.2).bind fun q12=>
 (V.asC q12.1).bind fun c13=>
 (C.asB c13).bind fun b14=>
 some (b14,q12.2)
 else
 some (decide (f=25),q10.2)).bind fun q11=>
 some ((.c (.bool q11.1)),q11.2)
 else
 (if(!decide (f=0))=false then
 (C.len run_0).bind fun k16=>
 (C.len run_1).bind fun k17=>
 some (decide (20000<(IntKind.wrap .i64 (((k16:Nat):Int)+((k17:Nat):Int)))),q10.2)
 else
 some (!decide (f=0),q10.2)).bind fun q15=>
 (if q15.1=true then
 some ((.c (.bool false)),q15.2)
 else
 (f22 M a_0 a_1 a_2 a_3 w_0 w_1 run_0 run_1 q15.2).bind fun q18=>
 (V.ext q18.1 0).bind fun v19=>
 (V.asC v19).bind fun c20=>
 (C.asI .i64 c20).bind fun n21=>
 (V.ext q18.1 1).bind fun v22=>
 (V.asC v22).bind fun c23=>
 (C.asI .i64 c23).bind fun n24=>
 some ((.c (.bool (decide (n24=0)))),q18.2))))):=by
 unfold f4_1 mrun;rw[q0f];kernel_rfl
theorem Z1l(M:Mach)(a_0:Int)(a_1:C)(a_2:C)(a_3:C)(w_0:C)(w_1:C)(H:Heap):f16 M a_0 a_1 a_2 a_3 w_0 w_1 H=
 (C.len w_0).bind fun k1=>
 (C.len w_1).bind fun k2=>
 (if 0<=(IntKind.wrap .i64 (a_0*(IntKind.wrap .i64 (((k1:Nat):Int)+((k2:Nat):Int)))))/\(IntKind.wrap .i64 (a_0*(IntKind.wrap .i64 (((k1:Nat):Int)+((k2:Nat):Int)))))<=2 ^ 36 then
 let H3:=Heap.alloc H (.cells 1 (List.replicate (Int.toNat (IntKind.wrap .i64 (a_0*(IntKind.wrap .i64 (((k1:Nat):Int)+((k2:Nat):Int)))))) [.nilSlice]).flatten)
 f16_1 M a_0 a_1 a_2 a_3 w_0 w_1 (IntKind.wrap .i64 (((k1:Nat):Int)+((k2:Nat):Int))) (.slice H.next 0 (Int.toNat (IntKind.wrap .i64 (a_0*(IntKind.wrap .i64 (((k1:Nat):Int)+((k2:Nat):Int))))))) 0 H3
 else
 none):=by
 unfold f16 mrun;rw[q0f];kernel_rfl
theorem W0r(M:Mach)(a_0:Int)(a_1:C)(a_2:C)(a_3:C)(w_0:C)(w_1:C)(n:Int)(next:C)(p:Int)(H:Heap):f16_1 M a_0 a_1 a_2 a_3 w_0 w_1 n next p H=
 (if(decide (p<n))=true then
 (if(decide ((IntKind.wrap .i64 (p+1))=n))=true then
 (C.len w_0).bind fun k1=>
 f16_2 M a_0 a_1 a_2 a_3 w_0 w_1 n next p ((k1:Nat):Int) H
 else
 f16_2 M a_0 a_1 a_2 a_3 w_0 w_1 n next p (IntKind.wrap .i64 (p+1)) H)
 else
 f16_5 M a_0 a_1 a_2 a_3 n next .nilSlice 0 H):=by
 unfold f16_1 mrun;rw[q0f];kernel_rfl
theorem z1B(M:Mach)(a_0:Int)(a_1:C)(a_2:C)(a_3:C)(w_0:C)(w_1:C)(n:Int)(next:C)(p:Int)(to:Int)(H:Heap):f16_2 M a_0 a_1 a_2 a_3 w_0 w_1 n next p to H=
 f16_3 M a_0 a_1 a_2 a_3 w_0 w_1 n next p to 0 H:=by
 unfold f16_2 mrun;rw[q0f];kernel_rfl
theorem W0s(M:Mach)(a_0:Int)(a_1:C)(a_2:C)(a_3:C)(n:Int)(next:C)(sets:C)(k:Int)(H:Heap):f16_5 M a_0 a_1 a_2 a_3 n next sets k H=
 (C.len a_3).bind fun k1=>
 (if(decide (k<((k1:Nat):Int)))=true then
 (if 0<=(IntKind.wrap .i64 (a_0*n))/\(IntKind.wrap .i64 (a_0*n))<=2 ^ 36 then
 let H2:=Heap.alloc H (.cells 1 (List.replicate (Int.toNat (IntKind.wrap .i64 (a_0*n))) [(.bool false)]).flatten)
 f16_6 M a_0 a_1 a_2 a_3 n next sets k (.slice H.next 0 (Int.toNat (IntKind.wrap .i64 (a_0*n)))) 0 H2
 else
 none)
 else
 (f44 M next sets H).bind fun q3=>
 (V.asC q3.1).bind fun c4=>
 f16_8 M a_0 a_1 a_2 a_3 n c4 0 q3.2):=by
 unfold f16_5 mrun;rw[q0f];kernel_rfl
theorem Q0V(M:Mach)(a_0:Int)(a_1:C)(a_2:C)(a_3:C)(w_0:C)(w_1:C)(n:Int)(next:C)(p:Int)(to:Int)(i:Int)(H:Heap):f16_3 M a_0 a_1 a_2 a_3 w_0 w_1 n next p to i H=
 (C.len a_2).bind fun k1=>
 (if(decide (i<((k1:Nat):Int)))=true then
 (C.elem 4 a_2 i).bind fun q2=>
 (Heap.ld H q2.1 q2.2).bind fun c3=>
 (C.asI .i64 c3).bind fun n4=>
 (Heap.ld H q2.1 (q2.2+1)).bind fun c5=>
 (C.asI .i64 c5).bind fun n6=>
 (Heap.ld H q2.1 ((q2.2+1)+1)).bind fun c7=>
 (C.asI .i64 c7).bind fun n8=>
 (Heap.ld H q2.1 (((q2.2+1)+1)+1)).bind fun c9=>
 (C.asI .i64 c9).bind fun n10=>
 (f42 M w_0 w_1 p H).bind fun q11=>
 (V.asC q11.1).bind fun c12=>
 (C.asI .i64 c12).bind fun n13=>
 (f43 M n4 n6 n8 n10 n13 q11.2).bind fun q14=>
 (V.asC q14.1).bind fun c15=>
 (C.asB c15).bind fun b16=>
 (if b16=true then
 (C.elem 1 next (IntKind.wrap .i64 ((IntKind.wrap .i64 (n4*n))+p))).bind fun q17=>
 (Heap.ld q14.2 q17.1 q17.2).bind fun c18=>
 let H19:=Heap.alloc q14.2 (.cells 1 [(.int .i64 (IntKind.wrap .i64 ((IntKind.wrap .i64 (n6*n))+to)))])
 (Heap.cellsOf H19 1 (.slice q14.2.next 0 1)).bind fun xs20=>
 (Heap.app M.lim H19 1 c18 xs20 1).bind fun q21=>
 (C.elem 1 next (IntKind.wrap .i64 ((IntKind.wrap .i64 (n4*n))+p))).bind fun q22=>
 (Heap.st M.lim q21.2 q22.1 q22.2 [q21.1]).bind fun H23=>
 f16_4 M a_0 a_1 a_2 a_3 w_0 w_1 n next p to i H23
 else
 f16_4 M a_0 a_1 a_2 a_3 w_0 w_1 n next p to i q14.2)
 else
 f16_1 M a_0 a_1 a_2 a_3 w_0 w_1 n next (IntKind.wrap .i64 (p+1)) H):=by
 unfold f16_3 mrun;rw[q0f];kernel_rfl
theorem W0t(M:Mach)(a_0:Int)(a_1:C)(a_2:C)(a_3:C)(n:Int)(next:C)(sets:C)(k:Int)(own:C)(i:Int)(H:Heap):f16_6 M a_0 a_1 a_2 a_3 n next sets k own i H=
 (C.elem 1 a_3 k).bind fun q1=>
 (Heap.ld H q1.1 q1.2).bind fun c2=>
 (C.len c2).bind fun k3=>
 (if(decide (i<((k3:Nat):Int)))=true then
 f16_7 M a_0 a_1 a_2 a_3 n next sets k own i 0 H
 else
 let H4:=Heap.alloc H (.cells 1 [own])
 (Heap.cellsOf H4 1 (.slice H.next 0 1)).bind fun xs5=>
 (Heap.app M.lim H4 1 sets xs5 1).bind fun q6=>
 f16_5 M a_0 a_1 a_2 a_3 n next q6.1 (IntKind.wrap .i64 (k+1)) q6.2):=by
 unfold f16_6 mrun;rw[q0f];kernel_rfl
theorem W0u(M:Mach)(a_0:Int)(a_1:C)(a_2:C)(a_3:C)(n:Int)(vin:C)(i:Int)(H:Heap):f16_8 M a_0 a_1 a_2 a_3 n vin i H=
 (C.len a_1).bind fun k1=>
 (if(decide (i<((k1:Nat):Int)))=true then
 (C.elem 1 a_1 i).bind fun q2=>
 (Heap.ld H q2.1 q2.2).bind fun c3=>
 (C.asI .i64 c3).bind fun n4=>
 (C.elem 1 vin (IntKind.wrap .i64 (n4*n))).bind fun q5=>
 (Heap.ld H q5.1 q5.2).bind fun c6=>
 (C.asB c6).bind fun b7=>
 (if b7=true then
 some ((.c (.bool true)),H)
 else
 f16_8 M a_0 a_1 a_2 a_3 n vin (IntKind.wrap .i64 (i+1)) H)
 else
 some ((.c (.bool false)),H)):=by
 unfold f16_8 mrun;rw[q0f];kernel_rfl
theorem W0v(M:Mach)(a_0:Int)(a_1:C)(a_2:C)(a_3:C)(w_0:C)(w_1:C)(n:Int)(next:C)(p:Int)(to:Int)(i:Int)(H:Heap):f16_4 M a_0 a_1 a_2 a_3 w_0 w_1 n next p to i H=
 f16_3 M a_0 a_1 a_2 a_3 w_0 w_1 n next p to (IntKind.wrap .i64 (i+1)) H:=by
 unfold f16_4 mrun;rw[q0f];kernel_rfl
theorem W0w(M:Mach)(a_0:Int)(a_1:C)(a_2:C)(a_3:C)(n:Int)(next:C)(sets:C)(k:Int)(own:C)(i:Int)(p:Int)(H:Heap):f16_7 M a_0 a_1 a_2 a_3 n next sets k own i p H=
 (if(decide (p<n))=true then
 (C.elem 1 a_3 k).bind fun q1=>
 (Heap.ld H q1.1 q1.2).bind fun c2=>
 (C.elem 1 c2 i).bind fun q3=>
 (Heap.ld H q3.1 q3.2).bind fun c4=>
 (C.asI .i64 c4).bind fun n5=>
 (C.elem 1 own (IntKind.wrap .i64 ((IntKind.wrap .i64 (n5*n))+p))).bind fun q6=>
 (Heap.st M.lim H q6.1 q6.2 [(.bool true)]).bind fun H7=>
 f16_7 M a_0 a_1 a_2 a_3 n next sets k own i (IntKind.wrap .i64 (p+1)) H7
 else
 f16_6 M a_0 a_1 a_2 a_3 n next sets k own (IntKind.wrap .i64 (i+1)) H):=by
 unfold f16_7 mrun;rw[q0f];kernel_rfl
theorem w1c(M:Mach)(a_0:Int)(a_1:C)(a_2:C)(a_3:C)(w_0:C)(w_1:C)(H:Heap):f18 M a_0 a_1 a_2 a_3 w_0 w_1 H=
 (f45 M a_0 a_1 a_2 a_3 w_0 w_1 H).bind fun q1=>
 (V.asC q1.1).bind fun c2=>
 (C.asI .i64 c2).bind fun n3=>
 (if(!decide (n3=0))=true then
 some ((.tuple [(.c (.bool false)),(.c (.int .i64 n3))]),q1.2)
 else
 (f46 M a_0 a_1 a_2 a_3 w_0 w_1 q1.2).bind fun q4=>
 (V.asA q4.1).bind fun c5=>
 (headC c5).bind fun c6=>
 (C.asI .i64 c6).bind fun n7=>
 (headC (c5.drop 1)).bind fun c8=>
 (headC ((c5.drop 1).drop 1)).bind fun c9=>
 (headC (((c5.drop 1).drop 1).drop 1)).bind fun c10=>
 (headC ((((c5.drop 1).drop 1).drop 1).drop 1)).bind fun c11=>
 (headC (((((c5.drop 1).drop 1).drop 1).drop 1).drop 1)).bind fun c12=>
 (C.asI .i64 c12).bind fun n13=>
 (headC ((((((c5.drop 1).drop 1).drop 1).drop 1).drop 1).drop 1)).bind fun c14=>
 (headC (((((((c5.drop 1).drop 1).drop 1).drop 1).drop 1).drop 1).drop 1)).bind fun c15=>
 (headC ((((((((c5.drop 1).drop 1).drop 1).drop 1).drop 1).drop 1).drop 1).drop 1)).bind fun c16=>
 (if((((((((((c5.drop 1).drop 1).drop 1).drop 1).drop 1).drop 1).drop 1).drop 1).drop 1)).length=0 then
 (f47 M n7 c8 c9 c10 c11 n13 c14 c15 c16 q4.2).bind fun q17=>
 (V.ext q17.1 0).bind fun v18=>
 (V.asA v18).bind fun c19=>
 (headC c19).bind fun c20=>
 (headC (c19.drop 1)).bind fun c21=>
 (if(((c19.drop 1).drop 1)).length=0 then
 (V.ext q17.1 1).bind fun v22=>
 (V.asC v22).bind fun c23=>
 (C.asB c23).bind fun b24=>
 some ((.tuple [(.c (.bool b24)),(.c (.int .i64 0))]),q17.2)
 else
 none)
 else
 none)):=by
 unfold f18 mrun;rw[q0f];kernel_rfl
theorem Y0O(M:Mach)(a_0:Int)(a_1:C)(a_2:C)(a_3:C)(w_0:C)(w_1:C)(H:Heap):f20 M a_0 a_1 a_2 a_3 w_0 w_1 H=
 (f45 M a_0 a_1 a_2 a_3 w_0 w_1 H).bind fun q1=>
 (V.asC q1.1).bind fun c2=>
 (C.asI .i64 c2).bind fun n3=>
 (if(!decide (n3=0))=true then
 some ((.tuple [(.agg [.nilSlice, .nilSlice]),(.c (.int .i64 n3))]),q1.2)
 else
 (f46 M a_0 a_1 a_2 a_3 w_0 w_1 q1.2).bind fun q4=>
 (V.asA q4.1).bind fun c5=>
 (headC c5).bind fun c6=>
 (C.asI .i64 c6).bind fun n7=>
 (headC (c5.drop 1)).bind fun c8=>
 (headC ((c5.drop 1).drop 1)).bind fun c9=>
 (headC (((c5.drop 1).drop 1).drop 1)).bind fun c10=>
 (headC ((((c5.drop 1).drop 1).drop 1).drop 1)).bind fun c11=>
 (headC (((((c5.drop 1).drop 1).drop 1).drop 1).drop 1)).bind fun c12=>
 (C.asI .i64 c12).bind fun n13=>
 (headC ((((((c5.drop 1).drop 1).drop 1).drop 1).drop 1).drop 1)).bind fun c14=>
 (headC (((((((c5.drop 1).drop 1).drop 1).drop 1).drop 1).drop 1).drop 1)).bind fun c15=>
 (headC ((((((((c5.drop 1).drop 1).drop 1).drop 1).drop 1).drop 1).drop 1).drop 1)).bind fun c16=>
 (if((((((((((c5.drop 1).drop 1).drop 1).drop 1).drop 1).drop 1).drop 1).drop 1).drop 1)).length=0 then
 (f47 M n7 c8 c9 c10 c11 n13 c14 c15 c16 q4.2).bind fun q17=>
 (V.ext q17.1 0).bind fun v18=>
 (V.asA v18).bind fun c19=>
 (headC c19).bind fun c20=>
 (headC (c19.drop 1)).bind fun c21=>
 (if(((c19.drop 1).drop 1)).length=0 then
 (V.ext q17.1 1).bind fun v22=>
 (V.asC v22).bind fun c23=>
 (C.asB c23).bind fun b24=>
 (if(!b24)=true then
 some ((.tuple [(.agg [.nilSlice, .nilSlice]),(.c (.int .i64 25))]),q17.2)
 else
 some ((.tuple [(.agg [c20,c21]),(.c (.int .i64 0))]),q17.2))
 else
 none)
 else
 none)):=by
 unfold f20 mrun;rw[q0f];kernel_rfl
theorem Z1m(M:Mach)(a_0:Int)(a_1:C)(a_2:C)(a_3:C)(w_0:C)(w_1:C)(H:Heap):f46 M a_0 a_1 a_2 a_3 w_0 w_1 H=
 let H1:=Heap.alloc H (.cells 4 [(.int .i64 a_0),a_1,a_2,a_3])
 (C.len w_0).bind fun k2=>
 (Heap.ld H1 H.next 0).bind fun c3=>
 (C.asI .i64 c3).bind fun n4=>
 (Heap.ld H1 H.next 1).bind fun c5=>
 (Heap.ld H1 H.next 2).bind fun c6=>
 (Heap.ld H1 H.next 3).bind fun c7=>
 (Heap.ld H1 H.next 1).bind fun c8=>
 let H9:=Heap.alloc H1 (.cells 1 [w_0,w_1])
 (f54 M (.slice H1.next 0 2) H9).bind fun q10=>
 (V.asC q10.1).bind fun c11=>
 (if seenA q10.2 H.next 0 [(.int .i64), .c, .c, .c] (.agg [(.int .i64 n4),c5,c6,c7])=true then
 (if seenC q10.2 H.next 1 .c (.c c8)=true then
 (C.len c11).bind fun k12=>
 (Heap.ld q10.2 H.next 0).bind fun c13=>
 (C.asI .i64 c13).bind fun n14=>
 (if 0<=(IntKind.wrap .i64 (((k12:Nat):Int)*n14))/\(IntKind.wrap .i64 (((k12:Nat):Int)*n14))<=2 ^ 36 then
 let H15:=Heap.alloc q10.2 (.cells 1 (List.replicate (Int.toNat (IntKind.wrap .i64 (((k12:Nat):Int)*n14))) [.nilSlice]).flatten)
 (C.len c11).bind fun k16=>
 f46_1 M (.ptr H.next 0) 0 .nilSlice .nilSlice .nilSlice .nilSlice 0 .nilSlice .nilSlice .nilSlice n4 c5 c6 c7 c11 ((k2:Nat):Int) (.slice q10.2.next 0 (Int.toNat (IntKind.wrap .i64 (((k12:Nat):Int)*n14)))) c8 .nilSlice c11 ((k16:Nat):Int) 0 H15
 else
 none)
 else
 none)
 else
 none):=by
 unfold f46 mrun;rw[q0f];kernel_rfl
theorem W0x(M:Mach)(a:C)(x4_0:Int)(x4_1:C)(x4_2:C)(x4_3:C)(x4_4:C)(x4_5:Int)(x4_6:C)(x4_7:C)(x4_8:C)(p_0:Int)(p_1:C)(p_2:C)(p_3:C)(p_4:C)(p_5:Int)(p_6:C)(p_7:C)(p_8:C)(x36:C)(x37:Int)(x38:Int)(H:Heap):f46_1 M a x4_0 x4_1 x4_2 x4_3 x4_4 x4_5 x4_6 x4_7 x4_8 p_0 p_1 p_2 p_3 p_4 p_5 p_6 p_7 p_8 x36 x37 x38 H=
 (if(decide (x38<x37))=true then
 (C.elem 1 x36 x38).bind fun q1=>
 (Heap.ld H q1.1 q1.2).bind fun c2=>
 (C.asI .i64 c2).bind fun n3=>
 (C.len p_4).bind fun k4=>
 (if(decide ((IntKind.wrap .i64 (x38+1))=((k4:Nat):Int)))=true then
 f46_2 M a x4_0 x4_1 x4_2 x4_3 x4_4 x4_5 x4_6 x4_7 x4_8 p_0 p_1 p_2 p_3 p_4 p_5 p_6 p_7 p_8 x38 n3 p_5 x36 x37 x38 H
 else
 f46_2 M a x4_0 x4_1 x4_2 x4_3 x4_4 x4_5 x4_6 x4_7 x4_8 p_0 p_1 p_2 p_3 p_4 p_5 p_6 p_7 p_8 x38 n3 (IntKind.wrap .i64 (x38+1)) x36 x37 x38 H)
 else
 (V.asP (.c a)).bind fun a5=>
 (Heap.ld H a5.1 (a5.2+3)).bind fun c6=>
 (C.len c6).bind fun k7=>
 f46_5 M a x4_0 x4_1 x4_2 x4_3 x4_4 x4_5 x4_6 x4_7 x4_8 p_0 p_1 p_2 p_3 p_4 p_5 p_6 p_7 p_8 c6 ((k7:Nat):Int) 0 H):=by
 unfold f46_1 mrun;rw[q0f];kernel_rfl
theorem W0y(M:Mach)(a:C)(x4_0:Int)(x4_1:C)(x4_2:C)(x4_3:C)(x4_4:C)(x4_5:Int)(x4_6:C)(x4_7:C)(x4_8:C)(p_0:Int)(p_1:C)(p_2:C)(p_3:C)(p_4:C)(p_5:Int)(p_6:C)(p_7:C)(p_8:C)(i:Int)(letter:Int)(next:Int)(x36:C)(x37:Int)(x38:Int)(H:Heap):f46_2 M a x4_0 x4_1 x4_2 x4_3 x4_4 x4_5 x4_6 x4_7 x4_8 p_0 p_1 p_2 p_3 p_4 p_5 p_6 p_7 p_8 i letter next x36 x37 x38 H=
 (V.asP (.c a)).bind fun a1=>
 (Heap.ld H a1.1 (a1.2+2)).bind fun c2=>
 (C.len c2).bind fun k3=>
 f46_3 M a x4_0 x4_1 x4_2 x4_3 x4_4 x4_5 x4_6 x4_7 x4_8 p_0 p_1 p_2 p_3 p_4 p_5 p_6 p_7 p_8 i letter next x36 x37 x38 c2 ((k3:Nat):Int) 0 H:=by
 unfold f46_2 mrun;rw[q0f];kernel_rfl
theorem W0z(M:Mach)(a:C)(x4_0:Int)(x4_1:C)(x4_2:C)(x4_3:C)(x4_4:C)(x4_5:Int)(x4_6:C)(x4_7:C)(x4_8:C)(p_0:Int)(p_1:C)(p_2:C)(p_3:C)(p_4:C)(p_5:Int)(p_6:C)(p_7:C)(p_8:C)(x90:C)(x91:Int)(x92:Int)(H:Heap):f46_5 M a x4_0 x4_1 x4_2 x4_3 x4_4 x4_5 x4_6 x4_7 x4_8 p_0 p_1 p_2 p_3 p_4 p_5 p_6 p_7 p_8 x90 x91 x92 H=
 (if(decide (x92<x91))=true then
 (C.elem 1 x90 x92).bind fun q1=>
 (Heap.ld H q1.1 q1.2).bind fun c2=>
 (C.len p_6).bind fun k3=>
 (f85 M c2 ((k3:Nat):Int) (.func 86 [] [a]) H).bind fun q4=>
 (V.asC q4.1).bind fun c5=>
 let H6:=Heap.alloc q4.2 (.cells 1 [c5])
 (Heap.cellsOf H6 1 (.slice q4.2.next 0 1)).bind fun xs7=>
 (Heap.app M.lim H6 1 p_8 xs7 1).bind fun q8=>
 f46_5 M a x4_0 x4_1 x4_2 x4_3 x4_4 x4_5 x4_6 x4_7 x4_8 p_0 p_1 p_2 p_3 p_4 p_5 p_6 p_7 q8.1 x90 x91 (IntKind.wrap .i64 (x92+1)) q8.2
 else
 some ((.agg [(.int .i64 p_0),p_1,p_2,p_3,p_4,(.int .i64 p_5),p_6,p_7,p_8]),H)):=by
 unfold f46_5 mrun;rw[q0f];kernel_rfl
theorem Q0W(M:Mach)(a:C)(x4_0:Int)(x4_1:C)(x4_2:C)(x4_3:C)(x4_4:C)(x4_5:Int)(x4_6:C)(x4_7:C)(x4_8:C)(p_0:Int)(p_1:C)(p_2:C)(p_3:C)(p_4:C)(p_5:Int)(p_6:C)(p_7:C)(p_8:C)(i:Int)(letter:Int)(next:Int)(x36:C)(x37:Int)(x38:Int)(x53:C)(x54:Int)(x55:Int)(H:Heap):f46_3 M a x4_0 x4_1 x4_2 x4_3 x4_4 x4_5 x4_6 x4_7 x4_8 p_0 p_1 p_2 p_3 p_4 p_5 p_6 p_7 p_8 i letter next x36 x37 x38 x53 x54 x55 H=
 (if(decide (x55<x54))=true then
 (C.elem 4 x53 x55).bind fun q1=>
 (Heap.ld H q1.1 q1.2).bind fun c2=>
 (C.asI .i64 c2).bind fun n3=>
 (Heap.ld H q1.1 (q1.2+1)).bind fun c4=>
 (C.asI .i64 c4).bind fun n5=>
 (Heap.ld H q1.1 ((q1.2+1)+1)).bind fun c6=>
 (C.asI .i64 c6).bind fun n7=>
 (Heap.ld H q1.1 (((q1.2+1)+1)+1)).bind fun c8=>
 (C.asI .i64 c8).bind fun n9=>
 (f60 M n3 n5 n7 n9 letter H).bind fun q10=>
 (V.asC q10.1).bind fun c11=>
 (C.asB c11).bind fun b12=>
 (if b12=true then
 (V.asP (.c a)).bind fun a13=>
 (Heap.ld q10.2 a13.1 a13.2).bind fun c14=>
 (C.asI .i64 c14).bind fun n15=>
 (C.elem 1 p_6 (IntKind.wrap .i64 ((IntKind.wrap .i64 (i*n15))+n3))).bind fun q16=>
 (V.asP (.c a)).bind fun a17=>
 (Heap.ld q10.2 q16.1 q16.2).bind fun c18=>
 (Heap.ld q10.2 a17.1 a17.2).bind fun c19=>
 (C.asI .i64 c19).bind fun n20=>
 let H21:=Heap.alloc q10.2 (.cells 1 [(.int .i64 (IntKind.wrap .i64 ((IntKind.wrap .i64 (next*n20))+n5)))])
 (Heap.cellsOf H21 1 (.slice q10.2.next 0 1)).bind fun xs22=>
 (Heap.app M.lim H21 1 c18 xs22 1).bind fun q23=>
 (C.elem 1 p_6 (IntKind.wrap .i64 ((IntKind.wrap .i64 (i*n15))+n3))).bind fun q24=>
 (Heap.st M.lim q23.2 q24.1 q24.2 [q23.1]).bind fun H25=>
 f46_4 M a x4_0 x4_1 x4_2 x4_3 x4_4 x4_5 x4_6 x4_7 x4_8 p_0 p_1 p_2 p_3 p_4 p_5 p_6 p_7 p_8 i letter next x36 x37 x38 x53 x54 x55 H25
 else
 f46_4 M a x4_0 x4_1 x4_2 x4_3 x4_4 x4_5 x4_6 x4_7 x4_8 p_0 p_1 p_2 p_3 p_4 p_5 p_6 p_7 p_8 i letter next x36 x37 x38 x53 x54 x55 q10.2)
 else
 f46_1 M a x4_0 x4_1 x4_2 x4_3 x4_4 x4_5 x4_6 x4_7 x4_8 p_0 p_1 p_2 p_3 p_4 p_5 p_6 p_7 p_8 x36 x37 (IntKind.wrap .i64 (x38+1)) H):=by
 unfold f46_3 mrun;rw[q0f];kernel_rfl
theorem W0A(M:Mach)(a:C)(x4_0:Int)(x4_1:C)(x4_2:C)(x4_3:C)(x4_4:C)(x4_5:Int)(x4_6:C)(x4_7:C)(x4_8:C)(p_0:Int)(p_1:C)(p_2:C)(p_3:C)(p_4:C)(p_5:Int)(p_6:C)(p_7:C)(p_8:C)(i:Int)(letter:Int)(next:Int)(x36:C)(x37:Int)(x38:Int)(x53:C)(x54:Int)(x55:Int)(H:Heap):f46_4 M a x4_0 x4_1 x4_2 x4_3 x4_4 x4_5 x4_6 x4_7 x4_8 p_0 p_1 p_2 p_3 p_4 p_5 p_6 p_7 p_8 i letter next x36 x37 x38 x53 x54 x55 H=
 f46_3 M a x4_0 x4_1 x4_2 x4_3 x4_4 x4_5 x4_6 x4_7 x4_8 p_0 p_1 p_2 p_3 p_4 p_5 p_6 p_7 p_8 i letter next x36 x37 x38 x53 x54 (IntKind.wrap .i64 (x55+1)) H:=by
 unfold f46_4 mrun;rw[q0f];kernel_rfl
theorem w1d(M:Mach)(p_0:Int)(p_1:C)(p_2:C)(p_3:C)(p_4:C)(p_5:Int)(p_6:C)(p_7:C)(p_8:C)(H:Heap):f47 M p_0 p_1 p_2 p_3 p_4 p_5 p_6 p_7 p_8 H=
 let H1:=Heap.alloc H (.cells 9 [(.int .i64 p_0),p_1,p_2,p_3,p_4,(.int .i64 p_5),p_6,p_7,p_8])
 (Heap.ld H1 H.next 6).bind fun c2=>
 (Heap.ld H1 H.next 7).bind fun c3=>
 (Heap.ld H1 H.next 8).bind fun c4=>
 (f73 M c2 c3 c4 (.func 87 [] [(.ptr H.next 0)]) H1).bind fun q5=>
 (V.ext q5.1 0).bind fun v6=>
 (V.asC v6).bind fun c7=>
 (V.ext q5.1 1).bind fun v8=>
 (V.asC v8).bind fun c9=>
 (V.ext q5.1 2).bind fun v10=>
 (V.asC v10).bind fun c11=>
 (C.asB c11).bind fun b12=>
 (f88 M c7 (.ptr H.next 0) q5.2).bind fun q13=>
 (V.asC q13.1).bind fun c14=>
 (f88 M c9 (.ptr H.next 0) q13.2).bind fun q15=>
 (V.asC q15.1).bind fun c16=>
 some ((.tuple [(.agg [c14,c16]),(.c (.bool b12))]),q15.2):=by
 unfold f47 mrun;rw[q0f];kernel_rfl
theorem Z1n(M:Mach)(s:C)(f:C)(H:Heap):f61 M s f H=
 (f91 M s f H).bind fun q1=>
 (V.asC q1.1).bind fun c2=>
 (C.asI .i64 c2).bind fun n3=>
 some ((.c (.bool (decide (0<=n3)))),q1.2):=by
 unfold f61 mrun;rw[q0f];kernel_rfl
theorem w1e(M:Mach)(g:C)(first:C)(sets:C)(mayBegin:C)(H:Heap):f73 M g first sets mayBegin H=
 let H1:=Heap.alloc H (.cells 1 [mayBegin])
 (f93 M g H1).bind fun q2=>
 (V.asC q2.1).bind fun c3=>
 let H4:=Heap.alloc q2.2 (.cells 1 [.nilSlice])
 (Heap.st M.lim H4 q2.2.next 0 [c3]).bind fun H5=>
 (Heap.ld H5 q2.2.next 0).bind fun c6=>
 (f92 M g c6 sets H5).bind fun q7=>
 (V.asC q7.1).bind fun c8=>
 let H9:=Heap.alloc q7.2 (.cells 1 [.nilSlice])
 (Heap.st M.lim H9 q7.2.next 0 [c8]).bind fun H10=>
 (f99 M g first 0 (.func 98 [] []) (.func 100 [] [(.ptr q7.2.next 0),(.ptr H.next 0)]) H10).bind fun q11=>
 (V.ext q11.1 0).bind fun v12=>
 (V.asC v12).bind fun c13=>
 (V.ext q11.1 1).bind fun v14=>
 (V.asC v14).bind fun c15=>
 (C.asB c15).bind fun b16=>
 (if(!b16)=true then
 some ((.tuple [(.c .nilSlice),(.c .nilSlice),(.c (.bool false))]),q11.2)
 else
 (C.len c13).bind fun k17=>
 (C.elem 1 c13 (IntKind.wrap .i64 (((k17:Nat):Int) - 1))).bind fun q18=>
 (Heap.ld q11.2 q18.1 q18.2).bind fun c19=>
 (C.asI .i64 c19).bind fun n20=>
 let H21:=Heap.alloc q11.2 (.cells 1 [(.int .i64 0)])
 (Heap.st M.lim H21 q11.2.next 0 [(.int .i64 n20)]).bind fun H22=>
 (Heap.ld H22 q11.2.next 0).bind fun c23=>
 (C.asI .i64 c23).bind fun n24=>
 let H25:=Heap.alloc H22 (.cells 1 [(.int .i64 n24)])
 (C.len sets).bind fun k26=>
 f73_1 M g (.slice H22.next 0 1) c13 (.ptr q11.2.next 0) (.func 101 [] [(.ptr q2.2.next 0),(.ptr q11.2.next 0)]) sets ((k26:Nat):Int) 0 H25):=by
 unfold f73 mrun;rw[q0f];kernel_rfl
theorem Q0X(M:Mach)(g:C)(loop:C)(path:C)(begin:C)(inside:C)(x49:C)(x50:Int)(x51:Int)(H:Heap):f73_1 M g loop path begin inside x49 x50 x51 H=
 (if(decide (x51<x50))=true then
 (C.elem 1 x49 x51).bind fun q1=>
 (Heap.ld H q1.1 q1.2).bind fun c2=>
 let H3:=Heap.alloc H (.cells 1 [.nilSlice])
 (Heap.st M.lim H3 H.next 0 [c2]).bind fun H4=>
 (f61 M loop (.func 102 [] [(.ptr H.next 0)]) H4).bind fun q5=>
 (V.asC q5.1).bind fun c6=>
 (C.asB c6).bind fun b7=>
 (if b7=true then
 f73_1 M g loop path begin inside x49 x50 (IntKind.wrap .i64 (x51+1)) q5.2
 else
 (C.len loop).bind fun k8=>
 (Heap.sub M.lim q5.2 1 loop (IntKind.wrap .i64 (((k8:Nat):Int) - 1)) none).bind fun c9=>
 (f99 M g c9 1 inside (.func 103 [] [(.ptr H.next 0)]) q5.2).bind fun q10=>
 (V.ext q10.1 0).bind fun v11=>
 (V.asC v11).bind fun c12=>
 (V.ext q10.1 1).bind fun v13=>
 (V.asC v13).bind fun c14=>
 (C.asB c14).bind fun b15=>
 (Heap.sub M.lim q10.2 1 c12 1 none).bind fun c16=>
 (Heap.cellsOf q10.2 1 c16).bind fun xs17=>
 (C.len c16).bind fun k18=>
 (Heap.app M.lim q10.2 1 loop xs17 k18).bind fun q19=>
 f73_1 M g q19.1 path begin inside x49 x50 (IntKind.wrap .i64 (x51+1)) q19.2)
 else
 (C.len loop).bind fun k20=>
 (Heap.sub M.lim H 1 loop (IntKind.wrap .i64 (((k20:Nat):Int) - 1)) none).bind fun c21=>
 (f99 M g c21 1 inside (.func 104 [] [begin]) H).bind fun q22=>
 (V.ext q22.1 0).bind fun v23=>
 (V.asC v23).bind fun c24=>
 (V.ext q22.1 1).bind fun v25=>
 (V.asC v25).bind fun c26=>
 (C.asB c26).bind fun b27=>
 (C.len c24).bind fun k28=>
 (Heap.sub M.lim q22.2 1 c24 1 (some (IntKind.wrap .i64 (((k28:Nat):Int) - 1)))).bind fun c29=>
 (Heap.cellsOf q22.2 1 c29).bind fun xs30=>
 (C.len c29).bind fun k31=>
 (Heap.app M.lim q22.2 1 loop xs30 k31).bind fun q32=>
 (C.len path).bind fun k33=>
 (Heap.sub M.lim q32.2 1 path 0 (some (IntKind.wrap .i64 (((k33:Nat):Int) - 1)))).bind fun c34=>
 some ((.tuple [(.c c34),(.c q32.1),(.c (.bool true))]),q32.2)):=by
 unfold f73_1 mrun;rw[q0f];kernel_rfl
theorem Z1o(M:Mach)(next:C)(H:Heap):f82 M next H=
 (C.len next).bind fun k1=>
 (if 0<=((k1:Nat):Int)/\((k1:Nat):Int)<=2 ^ 36 then
 let H2:=Heap.alloc H (.cells 1 (List.replicate (Int.toNat ((k1:Nat):Int)) [.nilSlice]).flatten)
 f82_1 M next (.slice H.next 0 (Int.toNat ((k1:Nat):Int))) 0 H2
 else
 none):=by
 unfold f82 mrun;rw[q0f];kernel_rfl
theorem W0B(M:Mach)(next:C)(out:C)(i:Int)(H:Heap):f82_1 M next out i H=
 (C.len next).bind fun k1=>
 (if(decide (i<((k1:Nat):Int)))=true then
 f82_2 M next out i 0 H
 else
 some ((.c out),H)):=by
 unfold f82_1 mrun;rw[q0f];kernel_rfl
theorem W0C(M:Mach)(next:C)(out:C)(i:Int)(k:Int)(H:Heap):f82_2 M next out i k H=
 (C.elem 1 next i).bind fun q1=>
 (Heap.ld H q1.1 q1.2).bind fun c2=>
 (C.len c2).bind fun k3=>
 (if(decide (k<((k3:Nat):Int)))=true then
 (C.elem 1 next i).bind fun q4=>
 (C.elem 1 next i).bind fun q5=>
 (Heap.ld H q4.1 q4.2).bind fun c6=>
 (C.elem 1 c6 k).bind fun q7=>
 (Heap.ld H q7.1 q7.2).bind fun c8=>
 (C.asI .i64 c8).bind fun n9=>
 (Heap.ld H q5.1 q5.2).bind fun c10=>
 (C.elem 1 c10 k).bind fun q11=>
 (Heap.ld H q11.1 q11.2).bind fun c12=>
 (C.asI .i64 c12).bind fun n13=>
 (C.elem 1 out n13).bind fun q14=>
 (Heap.ld H q14.1 q14.2).bind fun c15=>
 let H16:=Heap.alloc H (.cells 1 [(.int .i64 i)])
 (Heap.cellsOf H16 1 (.slice H.next 0 1)).bind fun xs17=>
 (Heap.app M.lim H16 1 c15 xs17 1).bind fun q18=>
 (if seenC q18.2 q4.1 q4.2 .c (.c c6)=true then
 (if seenC q18.2 q7.1 q7.2 (.int .i64) (.c (.int .i64 n9))=true then
 (C.elem 1 out n9).bind fun q19=>
 (Heap.st M.lim q18.2 q19.1 q19.2 [q18.1]).bind fun H20=>
 f82_2 M next out i (IntKind.wrap .i64 (k+1)) H20
 else
 none)
 else
 none)
 else
 f82_1 M next out (IntKind.wrap .i64 (i+1)) H):=by
 unfold f82_2 mrun;rw[q0f];kernel_rfl
theorem Z1p(M:Mach)(v:Int)(x1:C)(H:Heap):f87 M v x1 H=
 (V.asP (.c x1)).bind fun a1=>
 (V.asP (.c x1)).bind fun a2=>
 (Heap.ld H a1.1 a1.2).bind fun c3=>
 (C.asI .i64 c3).bind fun n4=>
 (if n4=0 then
 none
 else
 (Heap.ld H a2.1 (a2.2+5)).bind fun c5=>
 (C.asI .i64 c5).bind fun n6=>
 some ((.c (.bool (decide ((IntKind.wrap .i64 (Int.tdiv v n4))=n6)))),H)):=by
 unfold f87 mrun;rw[q0f];kernel_rfl
theorem Z1q(M:Mach)(l:C)(x1:C)(H:Heap):f88 M l x1 H=
 (C.len l).bind fun k1=>
 f88_1 M x1 .nilSlice l ((k1:Nat):Int) 0 H:=by
 unfold f88 mrun;rw[q0f];kernel_rfl
theorem W0D(M:Mach)(x1:C)(out:C)(x7:C)(x8:Int)(x9:Int)(H:Heap):f88_1 M x1 out x7 x8 x9 H=
 (if(decide (x9<x8))=true then
 (C.elem 1 x7 x9).bind fun q1=>
 (Heap.ld H q1.1 q1.2).bind fun c2=>
 (C.asI .i64 c2).bind fun n3=>
 (V.asP (.c x1)).bind fun a4=>
 (Heap.ld H a4.1 a4.2).bind fun c5=>
 (C.asI .i64 c5).bind fun n6=>
 (if n6=0 then
 none
 else
 let H7:=Heap.alloc H (.cells 1 [(.int .i64 (Int.tmod n3 n6))])
 (Heap.cellsOf H7 1 (.slice H.next 0 1)).bind fun xs8=>
 (Heap.app M.lim H7 1 out xs8 1).bind fun q9=>
 f88_1 M x1 q9.1 x7 x8 (IntKind.wrap .i64 (x9+1)) q9.2)
 else
 some ((.c out),H)):=by
 unfold f88_1 mrun;rw[q0f];kernel_rfl
theorem Z1r(M:Mach)(s:C)(f:C)(H:Heap):f91 M s f H=
 (C.len s).bind fun k1=>
 f91_1 M s f ((k1:Nat):Int) 0 H:=by
 unfold f91 mrun;rw[q0f];kernel_rfl
theorem Q0Y(M:Mach)(s:C)(f:C)(x7:Int)(x8:Int)(H:Heap):f91_1 M s f x7 x8 H=
 (if(decide (x8<x7))=true then
 (C.elem 1 s x8).bind fun q1=>
 (Heap.ld H q1.1 q1.2).bind fun c2=>
 (C.asI .i64 c2).bind fun n3=>
 (C.asF f).bind fun g4=>
 (mcall M g4.1 (g4.2.1.map .c++[(.c (.int .i64 n3))]++g4.2.2.map .c) H).bind fun q5=>
 (V.asC q5.1).bind fun c6=>
 (C.asB c6).bind fun b7=>
 (if b7=true then
 some ((.c (.int .i64 x8)),q5.2)
 else
 f91_1 M s f x7 (IntKind.wrap .i64 (x8+1)) q5.2)
 else
 some ((.c (.int .i64 (-1))),H)):=by
 unfold f91_1 mrun;rw[q0f];kernel_rfl
theorem Z1s(M:Mach)(g:C)(H:Heap):f93 M g H=
 (C.len g).bind fun k1=>
 (C.len g).bind fun k2=>
 (C.len g).bind fun k3=>
 let H4:=Heap.alloc H (.cells 1 [(.int .i64 (-1))])
 (f95 M (.slice H.next 0 1) ((k3:Nat):Int) H4).bind fun q5=>
 (V.asC q5.1).bind fun c6=>
 (if 0<=((k1:Nat):Int)/\((k1:Nat):Int)<=2 ^ 36 then
 let H7:=Heap.alloc q5.2 (.cells 1 (List.replicate (Int.toNat ((k1:Nat):Int)) [(.int .i64 0)]).flatten)
 (if 0<=((k2:Nat):Int)/\((k2:Nat):Int)<=2 ^ 36 then
 let H8:=Heap.alloc H7 (.cells 1 (List.replicate (Int.toNat ((k2:Nat):Int)) [(.int .i64 0)]).flatten)
 let H9:=Heap.alloc H8 (.cells 7 [g,(.slice q5.2.next 0 (Int.toNat ((k1:Nat):Int))),(.slice H7.next 0 (Int.toNat ((k2:Nat):Int))),c6, .nilSlice,(.int .i64 0),(.int .i64 0)])
 (C.len g).bind fun k10=>
 f93_1 M (.ptr H8.next 0) ((k10:Nat):Int) 0 H9
 else
 none)
 else
 none):=by
 unfold f93 mrun;rw[q0f];kernel_rfl
theorem W0E(M:Mach)(c:C)(x19:Int)(x20:Int)(H:Heap):f93_1 M c x19 x20 H=
 (if(decide (x20<x19))=true then
 (withP c fun i1 o2=>
 (Heap.ld H i1 (o2+1)).bind fun c3=>
 (C.elem 1 c3 x20).bind fun q4=>
 (Heap.ld H q4.1 q4.2).bind fun c5=>
 (C.asI .i64 c5).bind fun n6=>
 (if(decide (n6=0))=true then
 (f109 M c x20 H).bind fun q7=>
 f93_2 M c x19 x20 q7.2
 else
 f93_2 M c x19 x20 H))
 else
 (withP c fun i8 o9=>
 (Heap.ld H i8 (o9+3)).bind fun c10=>
 some ((.c c10),H))):=by
 unfold f93_1 mrun;rw[q0f];kernel_rfl
theorem W0F(M:Mach)(c:C)(x19:Int)(x20:Int)(H:Heap):f93_2 M c x19 x20 H=
 f93_1 M c x19 (IntKind.wrap .i64 (x20+1)) H:=by
 unfold f93_2 mrun;rw[q0f];kernel_rfl
theorem Z1t(M:Mach)(x:C)(count:Int)(H:Heap):f95 M x count H=
 (if(decide (count<0))=true then
 none
 else
 f95_1 M x count H):=by
 unfold f95 mrun;rw[q0f];kernel_rfl
theorem z1C(M:Mach)(x:C)(count:Int)(H:Heap):f95_1 M x count H=
 (C.len x).bind fun k1=>
 (f110 M (IntKind.wrap .u64 ((k1:Nat):Int)) (IntKind.wrap .u64 count) H).bind fun q2=>
 (V.ext q2.1 0).bind fun v3=>
 (V.asC v3).bind fun c4=>
 (C.asI .u64 c4).bind fun n5=>
 (V.ext q2.1 1).bind fun v6=>
 (V.asC v6).bind fun c7=>
 (C.asI .u64 c7).bind fun n8=>
 (if(decide (0<n5))=false then
 some (decide (9223372036854775807<n8),q2.2)
 else
 some (decide (0<n5),q2.2)).bind fun q9=>
 (if q9.1=true then
 none
 else
 f95_2 M x n8 q9.2):=by
 unfold f95_1 mrun;rw[q0f];kernel_rfl
theorem z1D(M:Mach)(x:C)(lo:Int)(H:Heap):f95_2 M x lo H=
 (if 0<=(IntKind.wrap .i64 lo)/\(IntKind.wrap .i64 lo)<=2 ^ 36 then
 let H1:=Heap.alloc H (.cells 1 (List.replicate (Int.toNat (IntKind.wrap .i64 lo)) [(.int .i64 0)]).flatten)
 (Heap.cellsOf H1 1 x).bind fun xs2=>
 (C.len x).bind fun k3=>
 (Heap.copy M.lim H1 1 (.slice H.next 0 (Int.toNat (IntKind.wrap .i64 lo))) xs2 k3).bind fun q4=>
 f95_3 M (.slice H.next 0 (Int.toNat (IntKind.wrap .i64 lo))) ((q4.1:Nat):Int) q4.2
 else
 none):=by
 unfold f95_2 mrun;rw[q0f];kernel_rfl
theorem z0F(M:Mach)(newslice:C)(n:Int)(H:Heap):f95_3 M newslice n H=
 (C.len newslice).bind fun k1=>
 (if(decide (n<((k1:Nat):Int)))=true then
 (Heap.sub M.lim H 1 newslice n none).bind fun c2=>
 (Heap.sub M.lim H 1 newslice 0 (some n)).bind fun c3=>
 (Heap.cellsOf H 1 c3).bind fun xs4=>
 (C.len c3).bind fun k5=>
 (Heap.copy M.lim H 1 c2 xs4 k5).bind fun q6=>
 f95_3 M newslice (IntKind.wrap .i64 (n+((q6.1:Nat):Int))) q6.2
 else
 some ((.c newslice),H)):=by
 unfold f95_3 mrun;rw[q0f];kernel_rfl
theorem Z1u(M:Mach)(x0:Int)(H:Heap):f98 M x0 H=
 some ((.c (.bool true)),H):=by
 unfold f98 mrun;rw[q0f];kernel_rfl
theorem Z1v(M:Mach)(g:C)(vfrom:C)(j0r:Int)(permitted:C)(asked:C)(H:Heap):f99 M g vfrom j0r permitted asked H=
 let H1:=Heap.alloc H (.cells 1 [(.int .i64 (-2))])
 (C.len g).bind fun k2=>
 (f95 M (.slice H.next 0 1) ((k2:Nat):Int) H1).bind fun q3=>
 (V.asC q3.1).bind fun c4=>
 let H5:=Heap.alloc q3.2 (.cells 1 [.nilSlice])
 (Heap.st M.lim H5 q3.2.next 0 [c4]).bind fun H6=>
 (C.len vfrom).bind fun k7=>
 f99_1 M g j0r permitted asked (.ptr q3.2.next 0) .nilSlice (.func 111 [] [(.ptr q3.2.next 0)]) vfrom ((k7:Nat):Int) 0 H6:=by
 unfold f99 mrun;rw[q0f];kernel_rfl
theorem W0G(M:Mach)(g:C)(j0r:Int)(permitted:C)(asked:C)(before:C)(queue:C)(back:C)(x25:C)(x26:Int)(x27:Int)(H:Heap):f99_1 M g j0r permitted asked before queue back x25 x26 x27 H=
 (if(decide (x27<x26))=true then
 (C.elem 1 x25 x27).bind fun q1=>
 (Heap.ld H q1.1 q1.2).bind fun c2=>
 (C.asI .i64 c2).bind fun n3=>
 (if(decide (j0r=0))=true then
 (C.asF asked).bind fun g5=>
 (mcall M g5.1 (g5.2.1.map .c++[(.c (.int .i64 n3))]++g5.2.2.map .c) H).bind fun q6=>
 (V.asC q6.1).bind fun c7=>
 (C.asB c7).bind fun b8=>
 some (b8,q6.2)
 else
 some (decide (j0r=0),H)).bind fun q4=>
 (if q4.1=true then
 let H9:=Heap.alloc q4.2 (.cells 1 [(.int .i64 n3)])
 some ((.tuple [(.c (.slice q4.2.next 0 1)),(.c (.bool true))]),H9)
 else
 (V.asP (.c before)).bind fun a10=>
 (Heap.ld q4.2 a10.1 a10.2).bind fun c11=>
 (C.elem 1 c11 n3).bind fun q12=>
 (Heap.ld q4.2 q12.1 q12.2).bind fun c13=>
 (C.asI .i64 c13).bind fun n14=>
 (if(decide (n14=(-2)))=true then
 (V.asP (.c before)).bind fun a15=>
 (Heap.ld q4.2 a15.1 a15.2).bind fun c16=>
 (C.elem 1 c16 n3).bind fun q17=>
 (Heap.st M.lim q4.2 q17.1 q17.2 [(.int .i64 (-1))]).bind fun H18=>
 let H19:=Heap.alloc H18 (.cells 1 [(.int .i64 n3)])
 (Heap.cellsOf H19 1 (.slice H18.next 0 1)).bind fun xs20=>
 (Heap.app M.lim H19 1 queue xs20 1).bind fun q21=>
 f99_2 M g j0r permitted asked before q21.1 back x25 x26 x27 q21.2
 else
 f99_2 M g j0r permitted asked before queue back x25 x26 x27 q4.2))
 else
 f99_3 M g permitted asked before queue back H):=by
 unfold f99_1 mrun;rw[q0f];kernel_rfl
theorem W0H(M:Mach)(g:C)(j0r:Int)(permitted:C)(asked:C)(before:C)(queue:C)(back:C)(x25:C)(x26:Int)(x27:Int)(H:Heap):f99_2 M g j0r permitted asked before queue back x25 x26 x27 H=
 f99_1 M g j0r permitted asked before queue back x25 x26 (IntKind.wrap .i64 (x27+1)) H:=by
 unfold f99_2 mrun;rw[q0f];kernel_rfl
theorem W0I(M:Mach)(g:C)(permitted:C)(asked:C)(before:C)(queue:C)(back:C)(H:Heap):f99_3 M g permitted asked before queue back H=
 (C.len queue).bind fun k1=>
 (if(decide (0<((k1:Nat):Int)))=true then
 (C.elem 1 queue 0).bind fun q2=>
 (Heap.ld H q2.1 q2.2).bind fun c3=>
 (C.asI .i64 c3).bind fun n4=>
 (Heap.sub M.lim H 1 queue 1 none).bind fun c5=>
 (C.elem 1 g n4).bind fun q6=>
 (Heap.ld H q6.1 q6.2).bind fun c7=>
 (C.len c7).bind fun k8=>
 f99_4 M g permitted asked before c5 back n4 c7 ((k8:Nat):Int) 0 H
 else
 some ((.tuple [(.c .nilSlice),(.c (.bool false))]),H)):=by
 unfold f99_3 mrun;rw[q0f];kernel_rfl
theorem W0J(M:Mach)(g:C)(permitted:C)(asked:C)(before:C)(queue:C)(back:C)(v:Int)(x64:C)(x65:Int)(x66:Int)(H:Heap):f99_4 M g permitted asked before queue back v x64 x65 x66 H=
 (if(decide (x66<x65))=true then
 (C.elem 1 x64 x66).bind fun q1=>
 (Heap.ld H q1.1 q1.2).bind fun c2=>
 (C.asI .i64 c2).bind fun n3=>
 (C.asF permitted).bind fun g4=>
 (mcall M g4.1 (g4.2.1.map .c++[(.c (.int .i64 n3))]++g4.2.2.map .c) H).bind fun q5=>
 (V.asC q5.1).bind fun c6=>
 (C.asB c6).bind fun b7=>
 (if(!b7)=true then
 f99_4 M g permitted asked before queue back v x64 x65 (IntKind.wrap .i64 (x66+1)) q5.2
 else
 (C.asF asked).bind fun g8=>
 (mcall M g8.1 (g8.2.1.map .c++[(.c (.int .i64 n3))]++g8.2.2.map .c) q5.2).bind fun q9=>
 (V.asC q9.1).bind fun c10=>
 (C.asB c10).bind fun b11=>
 (if b11=true then
 (C.asF back).bind fun g12=>
 (mcall M g12.1 (g12.2.1.map .c++[(.c (.int .i64 v))]++g12.2.2.map .c) q9.2).bind fun q13=>
 (V.asC q13.1).bind fun c14=>
 let H15:=Heap.alloc q13.2 (.cells 1 [(.int .i64 n3)])
 (Heap.cellsOf H15 1 (.slice q13.2.next 0 1)).bind fun xs16=>
 (Heap.app M.lim H15 1 c14 xs16 1).bind fun q17=>
 some ((.tuple [(.c q17.1),(.c (.bool true))]),q17.2)
 else
 (V.asP (.c before)).bind fun a18=>
 (Heap.ld q9.2 a18.1 a18.2).bind fun c19=>
 (C.elem 1 c19 n3).bind fun q20=>
 (Heap.ld q9.2 q20.1 q20.2).bind fun c21=>
 (C.asI .i64 c21).bind fun n22=>
 (if(decide (n22=(-2)))=true then
 (V.asP (.c before)).bind fun a23=>
 (Heap.ld q9.2 a23.1 a23.2).bind fun c24=>
 (C.elem 1 c24 n3).bind fun q25=>
 (Heap.st M.lim q9.2 q25.1 q25.2 [(.int .i64 v)]).bind fun H26=>
 let H27:=Heap.alloc H26 (.cells 1 [(.int .i64 n3)])
 (Heap.cellsOf H27 1 (.slice H26.next 0 1)).bind fun xs28=>
 (Heap.app M.lim H27 1 queue xs28 1).bind fun q29=>
 f99_5 M g permitted asked before q29.1 back v x64 x65 x66 q29.2
 else
 f99_5 M g permitted asked before queue back v x64 x65 x66 q9.2)))
 else
 f99_3 M g permitted asked before queue back H):=by
 unfold f99_4 mrun;rw[q0f];kernel_rfl
theorem W0K(M:Mach)(g:C)(permitted:C)(asked:C)(before:C)(queue:C)(back:C)(v:Int)(x64:C)(x65:Int)(x66:Int)(H:Heap):f99_5 M g permitted asked before queue back v x64 x65 x66 H=
 f99_4 M g permitted asked before queue back v x64 x65 (IntKind.wrap .i64 (x66+1)) H:=by
 unfold f99_5 mrun;rw[q0f];kernel_rfl
theorem w1X(M:Mach)(v:Int)(x1:C)(x2:C)(H:Heap):f100 M v x1 x2 H=
 (V.asP (.c x1)).bind fun a1=>
 (Heap.ld H a1.1 a1.2).bind fun c2=>
 (C.elem 1 c2 v).bind fun q3=>
 (Heap.ld H q3.1 q3.2).bind fun c4=>
 (C.asB c4).bind fun b5=>
 (if b5=true then
 (V.asP (.c x2)).bind fun a7=>
 (Heap.ld H a7.1 a7.2).bind fun c8=>
 (C.asF c8).bind fun g9=>
 (mcall M g9.1 (g9.2.1.map .c++[(.c (.int .i64 v))]++g9.2.2.map .c) H).bind fun q10=>
 (V.asC q10.1).bind fun c11=>
 (C.asB c11).bind fun b12=>
 some (b12,q10.2)
 else
 some (b5,H)).bind fun q6=>
 some ((.c (.bool q6.1)),q6.2):=by
 unfold f100 mrun;rw[q0f];kernel_rfl
theorem w1Y(M:Mach)(v:Int)(x1:C)(x2:C)(H:Heap):f101 M v x1 x2 H=
 (V.asP (.c x1)).bind fun a1=>
 (Heap.ld H a1.1 a1.2).bind fun c2=>
 (C.elem 1 c2 v).bind fun q3=>
 (Heap.ld H q3.1 q3.2).bind fun c4=>
 (C.asI .i64 c4).bind fun n5=>
 (V.asP (.c x1)).bind fun a6=>
 (Heap.ld H a6.1 a6.2).bind fun c7=>
 (V.asP (.c x2)).bind fun a8=>
 (Heap.ld H a8.1 a8.2).bind fun c9=>
 (C.asI .i64 c9).bind fun n10=>
 (C.elem 1 c7 n10).bind fun q11=>
 (Heap.ld H q11.1 q11.2).bind fun c12=>
 (C.asI .i64 c12).bind fun n13=>
 some ((.c (.bool (decide (n5=n13)))),H):=by
 unfold f101 mrun;rw[q0f];kernel_rfl
theorem w1Z(M:Mach)(v:Int)(x1:C)(H:Heap):f102 M v x1 H=
 (V.asP (.c x1)).bind fun a1=>
 (Heap.ld H a1.1 a1.2).bind fun c2=>
 (C.elem 1 c2 v).bind fun q3=>
 (Heap.ld H q3.1 q3.2).bind fun c4=>
 (C.asB c4).bind fun b5=>
 some ((.c (.bool b5)),H):=by
 unfold f102 mrun;rw[q0f];kernel_rfl
theorem Q1a(M:Mach)(v:Int)(x1:C)(H:Heap):f103 M v x1 H=
 (V.asP (.c x1)).bind fun a1=>
 (Heap.ld H a1.1 a1.2).bind fun c2=>
 (C.elem 1 c2 v).bind fun q3=>
 (Heap.ld H q3.1 q3.2).bind fun c4=>
 (C.asB c4).bind fun b5=>
 some ((.c (.bool b5)),H):=by
 unfold f103 mrun;rw[q0f];kernel_rfl
theorem Q1b(M:Mach)(v:Int)(x1:C)(H:Heap):f104 M v x1 H=
 (V.asP (.c x1)).bind fun a1=>
 (Heap.ld H a1.1 a1.2).bind fun c2=>
 (C.asI .i64 c2).bind fun n3=>
 some ((.c (.bool (decide (v=n3)))),H):=by
 unfold f104 mrun;rw[q0f];kernel_rfl
theorem Q1c(M:Mach)(c:C)(v:Int)(H:Heap):f109 M c v H=
 (withP c fun i1 o2=>
 (Heap.ld H i1 (o2+5)).bind fun c3=>
 (C.asI .i64 c3).bind fun n4=>
 (withP c fun i5 o6=>
 (Heap.st M.lim H i5 (o6+5) [(.int .i64 (IntKind.wrap .i64 (n4+1)))]).bind fun H7=>
 (withP c fun i8 o9=>
 (withP c fun i10 o11=>
 (withP c fun i12 o13=>
 (withP c fun i14 o15=>
 (Heap.ld H7 i8 (o9+1)).bind fun c16=>
 (Heap.ld H7 i10 (o11+2)).bind fun c17=>
 (Heap.ld H7 i12 (o13+5)).bind fun c18=>
 (C.asI .i64 c18).bind fun n19=>
 (Heap.ld H7 i14 (o15+5)).bind fun c20=>
 (C.asI .i64 c20).bind fun n21=>
 (C.elem 1 c16 v).bind fun q22=>
 (Heap.st M.lim H7 q22.1 q22.2 [(.int .i64 n19)]).bind fun H23=>
 (C.elem 1 c17 v).bind fun q24=>
 (Heap.st M.lim H23 q24.1 q24.2 [(.int .i64 n21)]).bind fun H25=>
 (withP c fun i26 o27=>
 (Heap.ld H25 i26 (o27+4)).bind fun c28=>
 let H29:=Heap.alloc H25 (.cells 1 [(.int .i64 v)])
 (Heap.cellsOf H29 1 (.slice H25.next 0 1)).bind fun xs30=>
 (Heap.app M.lim H29 1 c28 xs30 1).bind fun q31=>
 (withP c fun i32 o33=>
 (Heap.st M.lim q31.2 i32 (o33+4) [q31.1]).bind fun H34=>
 (withP c fun i35 o36=>
 (Heap.ld H34 i35 o36).bind fun c37=>
 (C.elem 1 c37 v).bind fun q38=>
 (Heap.ld H34 q38.1 q38.2).bind fun c39=>
 (C.len c39).bind fun k40=>
 f109_1 M c v c39 ((k40:Nat):Int) 0 H34))))))))):=by
 unfold f109 mrun;rw[q0f];kernel_rfl
theorem J0R(M:Mach)(c:C)(v:Int)(x51:C)(x52:Int)(x53:Int)(H:Heap):f109_1 M c v x51 x52 x53 H=
 (if(decide (x53<x52))=true then
 (C.elem 1 x51 x53).bind fun q1=>
 (Heap.ld H q1.1 q1.2).bind fun c2=>
 (C.asI .i64 c2).bind fun n3=>
 (withP c fun i4 o5=>
 (Heap.ld H i4 (o5+1)).bind fun c6=>
 (C.elem 1 c6 n3).bind fun q7=>
 (Heap.ld H q7.1 q7.2).bind fun c8=>
 (C.asI .i64 c8).bind fun n9=>
 (if(decide (n9=0))=true then
 (f109 M c n3 H).bind fun q10=>
 (withP c fun i11 o12=>
 (withP c fun i13 o14=>
 (withP c fun i15 o16=>
 (Heap.ld q10.2 i11 (o12+2)).bind fun c17=>
 (Heap.ld q10.2 i13 (o14+2)).bind fun c18=>
 (C.elem 1 c18 v).bind fun q19=>
 (Heap.ld q10.2 q19.1 q19.2).bind fun c20=>
 (C.asI .i64 c20).bind fun n21=>
 (Heap.ld q10.2 i15 (o16+2)).bind fun c22=>
 (C.elem 1 c22 n3).bind fun q23=>
 (Heap.ld q10.2 q23.1 q23.2).bind fun c24=>
 (C.asI .i64 c24).bind fun n25=>
 (C.elem 1 c17 v).bind fun q26=>
 (Heap.st M.lim q10.2 q26.1 q26.2 [(.int .i64 (if n25<n21 then n25 else n21))]).bind fun H27=>
 f109_2 M c v x51 x52 x53 H27)))
 else
 (withP c fun i28 o29=>
 (Heap.ld H i28 (o29+3)).bind fun c30=>
 (C.elem 1 c30 n3).bind fun q31=>
 (Heap.ld H q31.1 q31.2).bind fun c32=>
 (C.asI .i64 c32).bind fun n33=>
 (if(decide (n33<0))=true then
 (withP c fun i34 o35=>
 (withP c fun i36 o37=>
 (withP c fun i38 o39=>
 (Heap.ld H i34 (o35+2)).bind fun c40=>
 (Heap.ld H i36 (o37+2)).bind fun c41=>
 (C.elem 1 c41 v).bind fun q42=>
 (Heap.ld H q42.1 q42.2).bind fun c43=>
 (C.asI .i64 c43).bind fun n44=>
 (Heap.ld H i38 (o39+1)).bind fun c45=>
 (C.elem 1 c45 n3).bind fun q46=>
 (Heap.ld H q46.1 q46.2).bind fun c47=>
 (C.asI .i64 c47).bind fun n48=>
 (C.elem 1 c40 v).bind fun q49=>
 (Heap.st M.lim H q49.1 q49.2 [(.int .i64 (if n48<n44 then n48 else n44))]).bind fun H50=>
 f109_3 M c v x51 x52 x53 H50)))
 else
 f109_3 M c v x51 x52 x53 H))))
 else
 (withP c fun i51 o52=>
 (withP c fun i53 o54=>
 (Heap.ld H i51 (o52+2)).bind fun c55=>
 (C.elem 1 c55 v).bind fun q56=>
 (Heap.ld H q56.1 q56.2).bind fun c57=>
 (C.asI .i64 c57).bind fun n58=>
 (Heap.ld H i53 (o54+1)).bind fun c59=>
 (C.elem 1 c59 v).bind fun q60=>
 (Heap.ld H q60.1 q60.2).bind fun c61=>
 (C.asI .i64 c61).bind fun n62=>
 (if(decide (n58<n62))=true then
 some ((.tuple []),H)
 else
 f109_4 M c v H)))):=by
 unfold f109_1 mrun;rw[q0f];kernel_rfl
theorem w0C(M:Mach)(c:C)(v:Int)(x51:C)(x52:Int)(x53:Int)(H:Heap):f109_2 M c v x51 x52 x53 H=
 f109_1 M c v x51 x52 (IntKind.wrap .i64 (x53+1)) H:=by
 unfold f109_2 mrun;rw[q0f];kernel_rfl
theorem J0S(M:Mach)(c:C)(v:Int)(x51:C)(x52:Int)(x53:Int)(H:Heap):f109_3 M c v x51 x52 x53 H=
 f109_2 M c v x51 x52 x53 H:=by
 unfold f109_3 mrun;rw[q0f];kernel_rfl
theorem J0T(M:Mach)(c:C)(v:Int)(H:Heap):f109_4 M c v H=
 (withP c fun i1 o2=>
 (Heap.ld H i1 (o2+4)).bind fun c3=>
 (C.len c3).bind fun k4=>
 (withP c fun i5 o6=>
 (Heap.ld H i5 (o6+4)).bind fun c7=>
 (C.elem 1 c7 (IntKind.wrap .i64 (((k4:Nat):Int) - 1))).bind fun q8=>
 (Heap.ld H q8.1 q8.2).bind fun c9=>
 (C.asI .i64 c9).bind fun n10=>
 (withP c fun i11 o12=>
 (Heap.ld H i11 (o12+4)).bind fun c13=>
 (Heap.sub M.lim H 1 c13 0 (some (IntKind.wrap .i64 (((k4:Nat):Int) - 1)))).bind fun c14=>
 (withP c fun i15 o16=>
 (Heap.st M.lim H i15 (o16+4) [c14]).bind fun H17=>
 (withP c fun i18 o19=>
 (withP c fun i20 o21=>
 (Heap.ld H17 i18 (o19+3)).bind fun c22=>
 (Heap.ld H17 i20 (o21+6)).bind fun c23=>
 (C.asI .i64 c23).bind fun n24=>
 (C.elem 1 c22 n10).bind fun q25=>
 (Heap.st M.lim H17 q25.1 q25.2 [(.int .i64 n24)]).bind fun H26=>
 (if(decide (n10=v))=true then
 (withP c fun i27 o28=>
 (Heap.ld H26 i27 (o28+6)).bind fun c29=>
 (C.asI .i64 c29).bind fun n30=>
 (withP c fun i31 o32=>
 (Heap.st M.lim H26 i31 (o32+6) [(.int .i64 (IntKind.wrap .i64 (n30+1)))]).bind fun H33=>
 some ((.tuple []),H33)))
 else
 f109_4 M c v H26))))))):=by
 unfold f109_4 mrun;rw[q0f];kernel_rfl
theorem Q1d(M:Mach)(v:Int)(x1:C)(H:Heap):f111 M v x1 H=
 f111_1 M v x1 .nilSlice H:=by
 unfold f111 mrun;rw[q0f];kernel_rfl
theorem J0U(M:Mach)(v:Int)(x1:C)(out:C)(H:Heap):f111_1 M v x1 out H=
 (if(decide (0<=v))=true then
 let H1:=Heap.alloc H (.cells 1 [(.int .i64 v)])
 (Heap.cellsOf H1 1 (.slice H.next 0 1)).bind fun xs2=>
 (Heap.app M.lim H1 1 out xs2 1).bind fun q3=>
 (V.asP (.c x1)).bind fun a4=>
 (Heap.ld q3.2 a4.1 a4.2).bind fun c5=>
 (C.elem 1 c5 v).bind fun q6=>
 (Heap.ld q3.2 q6.1 q6.2).bind fun c7=>
 (C.asI .i64 c7).bind fun n8=>
 f111_1 M n8 x1 q3.1 q3.2
 else
 (f112 M out H).bind fun q9=>
 some ((.c out),q9.2)):=by
 unfold f111_1 mrun;rw[q0f];kernel_rfl
theorem Q1e(M:Mach)(s:C)(H:Heap):f112 M s H=
 (C.len s).bind fun k1=>
 f112_1 M s 0 (IntKind.wrap .i64 (((k1:Nat):Int) - 1)) H:=by
 unfold f112 mrun;rw[q0f];kernel_rfl
theorem w0D(M:Mach)(s:C)(i:Int)(j:Int)(H:Heap):f112_1 M s i j H=
 (if(decide (i<j))=true then
 (C.elem 1 s j).bind fun q1=>
 (C.elem 1 s i).bind fun q2=>
 (Heap.ld H q1.1 q1.2).bind fun c3=>
 (C.asI .i64 c3).bind fun n4=>
 (Heap.ld H q2.1 q2.2).bind fun c5=>
 (C.asI .i64 c5).bind fun n6=>
 (C.elem 1 s i).bind fun q7=>
 (Heap.st M.lim H q7.1 q7.2 [(.int .i64 n4)]).bind fun H8=>
 (C.elem 1 s j).bind fun q9=>
 (Heap.st M.lim H8 q9.1 q9.2 [(.int .i64 n6)]).bind fun H10=>
 f112_1 M s (IntKind.wrap .i64 (i+1)) (IntKind.wrap .i64 (j - 1)) H10
 else
 some ((.tuple []),H)):=by
 unfold f112_1 mrun;rw[q0f];kernel_rfl
def sxt:List (FuncId×(List Nat×List Nat)):=[(3,([1,3],[])),(4,([2,3,7],[2,3,5,6,7,8,9])),(6,([1,5,10],[])),(8,([5],[])),(9,([1],[1,3])),(10,([1,2],[])),(11,([1,2],[])),(12,([1],[])),(13,([2,3],[])),(14,([1],[3,4])),(15,([1],[1,3])),(16,([2,3,10],[2,3,5,6,7,8,9,11,12,13,14,15,16,17])),(17,([1],[])),(18,([2,3,7],[])),(19,([1,2],[])),(20,([2,3,4,7],[])),(21,([2,3],[])),(22,([3,4,5],[3,4,5,10,11,12,13,14,15])),(25,([1,9],[1,49,50,51,87,88,89])),(26,([1,2,6],[])),(27,([1,7],[1,4,6,8,9])),(28,([1],[])),(29,([1,2,8,10],[1,2,4,5,6,7,8,9,11])),(30,([2,3],[2,3,5])),(31,([],[0,1,5])),(35,([0],[])),(36,([1],[])),(37,([1,2,15],[1,2,6,7,9,10,12,13,38,39,40])),(39,([],[0,3,4])),(40,([1,5],[1,3,4,6,7,8,9,10])),(42,([2],[])),(43,([2],[1,2,5])),(44,([],[0,1,5,6,7,8,9,10,11,12])),(45,([2,3],[])),(46,([3,4,5,10],[2,4,5,6,7,8,36,37,38,53,54,55,90,91,92])),(47,([2],[])),(48,([2],[])),(49,([],[0,1,5])),(50,([3,4],[2,3,4,7])),(51,([2],[])),(52,([],[3,6,7,8])),(54,([],[0,3,6,9,10,11,25,26,27])),(60,([2],[])),(63,([],[0,1,9,10,11])),(64,([1,2,19,21],[1,2,4,6,7,8,12,15,16,18,19,37,38,39,44,45,46,69,70,71,87,88,120,121,122,160,161,162])),(65,([3],[])),(66,([],[0,1,2,7,8])),(67,([],[0,1,5])),(69,([1],[])),(72,([1,6],[1,4,7,14,15,16,37,38,39])),(73,([],[0,9,14,16,17,49,50,51])),(75,([],[0,1,7,8])),(76,([3],[])),(77,([1,2],[])),(78,([1],[])),(79,([],[1,5,6])),(80,([],[0,1,5,6,7,8,9])),(82,([],[0,3,4,5])),(83,([],[0,1,2,7,8,9,10,11])),(84,([1],[])),(85,([],[0,2,7,12,13])),(88,([],[1,4,7,8,9])),(89,([],[0,1])),(90,([],[0,1,7,8])),(91,([],[0,1,7,8])),(92,([],[0,1,2,7,10,11,16,17,20,22,23,24,35,36,37,42,43,44,74,75,76,83,84,108,109,131,132])),(93,([],[3,19,20])),(94,([],[0,1,4,10,11,12,34,35,36])),(95,([],[0,1,6,7,8])),(96,([],[1,4,7,8,9])),(99,([],[0,2,3,4,12,13,14,17,25,26,27,64,65,66])),(105,([1,2],[])),(109,([],[0,1,51,52,53])),(111,([],[0,1,4])),(112,([],[0,2,3])),(113,([1,2],[2,3,4,5])),(117,([],[0,1,12,13]))]
def sx(f:FuncId):List Nat×List Nat:=(sxt.lookup f).getD ([],[])
theorem aw0:((xrunN prog sx 0 4000).call 8 [] H0).map (·.1)=some (.c (.bool true)):=by kernel_rfl
theorem ext_ok(lim:Nat):CallOK lim Go.Proofs.Try.prog (fun f vs H=>awExt 8 f (vs.map .val) H):=k1x prog_ok (K1S aw0).choose_spec lim
theorem k0p: ∀f rf,yprog f=some rf->progOf 8 prog true f=some rf:=fun f rf h=>by
 unfold yprog at h
 unfold progOf
 by_cases h8:f=8
 ·subst h8;cases h
 ·rw[if_neg h8]
  split at h
  ·cases h
  ·exact h
end Go.Proofs.Ytglkhoamnmiolaa.R
