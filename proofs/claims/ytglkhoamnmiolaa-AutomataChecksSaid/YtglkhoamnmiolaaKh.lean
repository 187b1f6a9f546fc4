/- - -/
import Derived.Test.YtglkhoamnmiolaaKg
set_option linter.all false
namespace Go.Proofs.Ytglkhoamnmiolaa.R
open Go Go.Proofs.Ytglkhoamnmiolaa.Vm
theorem z0N(H:Heap)(x:C):Heap.cellsOf (H.alloc (.cells 1 [x])) 1 (.slice H.next 0 1)=some [x]:=by
 simp[Heap.cellsOf,Heap.ldN,alloc_new]
theorem J0O{H:Heap}{F:Nat->Prop}: ∀l:List Bool,EsR H F (uBs l) 1 (l.map C.bool)
 | []=>rfl
 |b::l=>⟨[.bool b],l.map C.bool,rfl,rfl,⟨rfl,rfl⟩,J0O l⟩
structure OneN (Ha:Heap) (bs:List Bool) (H:Heap):Prop where
 lt:Ha.next<H.next
 old: ∀i,i<Ha.next->H.get i=Ha.get i
 new:H.get Ha.next=some (.cells 1 (bs.map C.bool))
theorem OneN.fr{Ha H H0:Heap}{bs:List Bool}{b:Nat}(h:OneN Ha bs H)(f:FrB b H0 Ha):FrB b H0 H:=f.fr ⟨Nat.le_of_lt h.lt,h.old⟩
theorem OneN.set{Ha H:Heap}{bs:List Bool}{lim k:Nat}(h:OneN Ha bs H)(hl:lim<=Ha.next)(hk:k<bs.length): ∃H',Heap.st lim H Ha.next k [.bool true]=some H'/\OneN Ha (bs.set k true) H':=by
 refine⟨_,Q0Z h.new hl (by simpa using hk),h.lt,fun i hi=> ?_, ?_⟩
 ·rw[q0d (by omega)];exact h.old i hi
 ·rw[put_same,List.map_set]
section
variable{lim:Nat}{M:YM}(hM:CallsY lim M.ext){H0 Ha:Heap}{F:Nat->Prop}{b a:Nat}{b1 b2 b3 b4 b5:Bool}{l:List Int}{es:List E4}{xs:List (Bool×List Int)}{w0 w1:List Int}{c1 c2 c3 d0 d1:C}
variable(A:AW lim H0 F b a l es xs w0 w1 b1 b2 b3 b4 b5 c1 c2 c3 d0 d1){n:Nat}(hn:n=w0.length+w1.length)(fa:FrB b H0 Ha)
include A hn fa
omit fa
def setU(l:List Bool):U:= .sl true (uBs l)
end
end Go.Proofs.Ytglkhoamnmiolaa.R
