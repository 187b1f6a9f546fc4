/- - -/
import Derived.Test.YtglkhoamnmiolaaKj
set_option linter.all false
namespace Go.Proofs.Ytglkhoamnmiolaa.R
open Go Go.Proofs.Ytglkhoamnmiolaa.Vm
theorem J0X(H:Heap)(w x y z:C):Heap.cellsOf (H.alloc (.cells 4 [w,x,y,z])) 4 (.slice H.next 0 1)=some [w,x,y,z]:=by
 simp[Heap.cellsOf,Heap.ldN,alloc_new]
section
variable{lim:Nat}{M:YM}(hM:CallsY lim M.ext){H0:Heap}{F:Nat->Prop}{b a:Nat}{b1 b2 b3:Bool}{l:List Int}{es:List E4}{xs:List (Bool×List Int)}{c1 c2 c3:C}
variable(A:AV lim H0 F b a l es xs b1 b2 b3 c1 c2 c3)
include hM A
structure Kp (H0:Heap) (F:Nat->Prop) (b jl m m0:Nat) (G:Nat->Prop) (H H':Heap) (us:List U) (c':C):Prop where
 f:Fr1 H0 F b jl m m0 H' G
 o:OutR m0 H' G 4 us c'
 le:FLe H G H' G
 low: ∀i,i<m0->H'.get i=H.get i
 nx:H.next<=H'.next
omit hM A in
theorem Kp.trans{jl m m0:Nat}{G:Nat->Prop}{H H1 H2:Heap}{us us':List U}{c c':C}(h:Kp H0 F b jl m m0 G H H1 us c)(k:Kp H0 F b jl m m0 G H1 H2 us' c'):Kp H0 F b jl m m0 G H H2 us' c':=
 ⟨k.f,k.o,h.le.trans k.le,fun i hi=>(k.low i hi).trans (h.low i hi),nT h.nx k.nx⟩
omit hM A in
theorem Kp.step{jl m m0:Nat}{G:Nat->Prop}{H H1:Heap}{us:List U}{c:C}(f:Fr1 H0 F b jl m m0 H G)(hj:jl<m0)(o:OutR m0 H G 4 us c)(k:FrX none H G H1 G):Kp H0 F b jl m m0 G H H1 us c:=
 ⟨f.step hj k,o.fr k (fun i e=>by cases e) f.lt,k.le0 f.lt,fun i hi=>k.keep i (nL hi f.n0) (fun e=>by cases e),k.next⟩
end
end Go.Proofs.Ytglkhoamnmiolaa.R
