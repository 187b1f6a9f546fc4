/- - -/
import Derived.Test.YtglkhoamnmiolaaKi
set_option linter.all false
namespace Go.Proofs.Ytglkhoamnmiolaa.R
open Go Go.Proofs.Ytglkhoamnmiolaa.Vm
structure AV (lim:Nat) (H0:Heap) (F:Nat->Prop) (b a:Nat) (l:List Int) (es:List E4) (xs:List (Bool×List Int)) (b1 b2 b3:Bool) (c1 c2 c3:C):Prop where
 hl:lim<=b
 hF: ∀i,F i->i<b
 ha:a<=300
 he:es.length<=6000
 hx:xs.length<=8
 ok:es.all (eOK (a:Int))=true
 u1:UC H0 F (uIs b1 l) [c1]
 u2:UC H0 F (uEs b2 es) [c2]
 u3:UC H0 F (uLs b3 xs) [c3]
 hls:l.length<=1000000/\ ∀s∈l,0<=s/\s<(a:Int)
 hxs: ∀x∈xs,x.2.length<=1000000/\ ∀s∈x.2,0<=s/\s<(a:Int)
def accL(xs:List (Bool×List Int))(k t:Nat):Bool:=decide ((t:Int)∈(xs.getD k (false,[])).2)
section
variable{H H':Heap}{F F':Nat->Prop}
end
section
variable{lim:Nat}{M:YM}(hM:CallsY lim M.ext){H0:Heap}{F:Nat->Prop}{b a:Nat}{b1 b2 b3:Bool}{l:List Int}{es:List E4}{xs:List (Bool×List Int)}{c1 c2 c3:C}
variable(A:AV lim H0 F b a l es xs b1 b2 b3 c1 c2 c3)
include A
structure Fr1 (H0:Heap) (F:Nat->Prop) (b jl m m0:Nat) (H:Heap) (G:Nat->Prop):Prop where
 fr:FrB b H0 H
 n0:m0<=H.next
 box:H.get jl=some (.cells 1 [.int .i64 ((m+1:Nat):Int)])
 inj:G jl
 sub: ∀i,F i->G i
 lt: ∀i,G i->i<H.next
 new: ∀i,G i->F i\/i=jl\/m0<=i
omit A
theorem Fr1.step{jl m m0:Nat}{H H1:Heap}{G:Nat->Prop}(h:Fr1 H0 F b jl m m0 H G)(hj:jl<m0)(f:FrX none H G H1 G):Fr1 H0 F b jl m m0 H1 G:=
 ⟨h.fr.fr (J0Y f),nT h.n0 f.next,by rw[f.keep jl (h.lt jl h.inj) (fun e=>by cases e)];exact h.box,h.inj,h.sub,f.lt,h.new⟩
theorem Fr1.app{jl m m0:Nat}{H H1:Heap}{G:Nat->Prop}(h:Fr1 H0 F b jl m m0 H G)(hj:jl<m0)(hb:b<=m0)(hn:H.next<=H1.next)(hk: ∀i,i<m0->H1.get i=H.get i)(hle:FLe H G H1 G):Fr1 H0 F b jl m m0 H1 G:=
 ⟨⟨nT h.fr.next hn,fun i hi=>by rw[hk i (by omega)];exact h.fr.old i hi⟩,nT h.n0 hn,by rw[hk jl hj];exact h.box,h.inj,h.sub,fun i hi=>nL (h.lt i hi) hn,h.new⟩
include hM A
end
end Go.Proofs.Ytglkhoamnmiolaa.R
