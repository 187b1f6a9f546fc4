/- - -/
import Derived.Test.YthjjbkiejkhjfaaSa
import Derived.Test.YthjjbkiejkhjfaaE9
set_option linter.all false
namespace Go.Proofs.Ythjjbkiejkhjfaa.R
open Go Go.Proofs.Ythjjbkiejkhjfaa.Vm
structure Tabs (H:Heap) (b:Nat) (c:List C) (r:List (List Int)):Prop where
 len:c.length=r.length
 own: ∀(k:Nat) (x:C) (l:List Int),c[k]? =some x->r[k]? =some l->OInts H b x l/\(l=[]->x= .nilSlice)
 apart: ∀(j k:Nat) (x y:C),j≠k->c[j]? =some x->c[k]? =some y->Apart x y
theorem OInts.put{H:Heap}{b i:Nat}{o:Vm.Obj}{x:C}{l:List Int}(h:OInts H b x l)(hi:i<b):OInts (H.put i o) b x l:=by
 refine⟨h.1,h.2.1,h.2.2.imp id fun⟨j,p,cs,h1,h2,h3,h4,h5⟩=>⟨j,p,cs,h1,h2,h3, ?_,h5⟩⟩
 rw[j0T (by omega)]
 exact h4
theorem Tabs.put{H:Heap}{b i:Nat}{o:Vm.Obj}{c:List C}{r:List (List Int)}(h:Tabs H b c r)(hi:i<b):Tabs (H.put i o) b c r:=
 ⟨h.len,fun k x l hx hl=>⟨OInts.put (h.own k x l hx hl).1 hi,(h.own k x l hx hl).2⟩,h.apart⟩
theorem Tabs.app{H:Heap}{lim b k:Nat}{c:List C}{r:List (List Int)}{x:C}{l:List Int}(h:Tabs H b c r)(hb:lim<=b)(hx:c[k]? =some x)(hl:r[k]? =some l)(v:Int)(hroom:l.length+1<=2 ^ 36):
  Heap.cellsOf (H.alloc (.cells 1 [.int .i64 v])) 1 (.slice H.next 0 1)=some [.int .i64 v]/\
  ∃c' H',Heap.app lim (H.alloc (.cells 1 [.int .i64 v])) 1 x [.int .i64 v] 1=some (c',H')/\Tabs H' b (c.set k c') (r.set k (l++[v]))/\(∀i,i<b->H'.get i=H.get i)/\H.next<=H'.next:=by
 obtain⟨ho,_⟩:=h.own k x l hx hl
 obtain⟨h1,c',H',h2,h3,h4,h5⟩:=OInts.append1 (lim:=lim) ho hb v hroom
 refine⟨h1,c',H',h2,⟨by simp[h.len], ?_, ?_⟩,fun i hi=>h4.keep i (nL hi ho.1) ?_,h4.next⟩
 ·intro j y m hy hm
  rw[List.getElem?_set]at hy hm
  by_cases hj:k=j
  ·rw[if_pos hj]at hy hm
   split at hy
   ·split at hm
    ·cases hy;cases hm
     exact⟨h3,fun e=>by simp at e⟩
    ·cases hm
   ·cases hy
  ·rw[if_neg hj]at hy hm
   obtain⟨g1,g2⟩:=h.own j y m hy hm
   exact⟨Own.kept g1 h4 (h.apart k j x y hj hx hy),g2⟩
 ·have fresh: ∀(j:Nat) (y:C),c[j]? =some y->Apart c' y/\Apart y c':=by
   intro j y hy
   have hjl:j<r.length:=by rw[<-h.len];exact(gE.1 hy).1
   obtain⟨g1,_⟩:=h.own j y r[j] hy (List.getElem?_eq_getElem hjl)
   have hyy: ∀i o n,y= .slice i o n->i<H.next:=by
    intro i o n e
    rcases g1.2.2 with⟨e2,_⟩ |⟨i',o',cs,e2,_,e3,_⟩
    ·rw[e]at e2;cases e2
    ·rw[e]at e2;cases e2;exact e3
   refine⟨fun i o n p m e1 e2=> ?_,fun i o n p m e1 e2=> ?_⟩
   ·have:=hyy _ _ _ e2
    rcases h5 with e |⟨i',o',n',e,e3⟩
    ·rw[e]at e1;cases e1
    ·rw[e]at e1;cases e1;omega
   ·have:=hyy _ _ _ e1
    rcases h5 with e |⟨i',o',n',e,e3⟩
    ·rw[e]at e2;cases e2
    ·rw[e]at e2;cases e2;omega
  intro i j y z hij hy hz
  rw[List.getElem?_set]at hy hz
  by_cases hi:k=i
  ·rw[if_pos hi]at hy
   have hj:k≠j:=fun e=>hij (hi.symm.trans e)
   rw[if_neg hj]at hz
   split at hy
   ·cases hy;exact(fresh j z hz).1
   ·cases hy
  ·rw[if_neg hi]at hy
   by_cases hj:k=j
   ·rw[if_pos hj]at hz
    split at hz
    ·cases hz;exact(fresh i y hy).2
    ·cases hz
   ·rw[if_neg hj]at hz
    exact h.apart i j y z hij hy hz
 ·intro o n e
  rcases ho.2.2 with⟨e2,_⟩ |⟨i',o',cs,e2,e3,_⟩
  ·rw[e]at e2;cases e2
  ·rw[e]at e2;cases e2;omega
structure E3 where
 f:Int
 t:Int
 a:Int
def ixs(g:E3->Int)(es:List E3)(q:Nat):Nat->List Int
 | 0=>[]
 |k+1=>ixs g es q k++(if(es[k]?.map g)=some (q:Int)then [(k:Int)]else [])
def tabOf(g:E3->Int)(es:List E3)(m k:Nat):List (List Int):=(List.range m).map fun q=>ixs g es q k
theorem K0Z(g:E3->Int)(es:List E3)(q:Nat): ∀k,(ixs g es q k).length<=k
 | 0=>nR _
 |k+1=>by
  have:=K0Z g es q k
  simp only[ixs,List.length_append]
  split<;>simp<;>omega
theorem q0q(g:E3->Int)(es:List E3)(m k:Nat):(tabOf g es m k).length=m:=by simp[tabOf]
theorem z0w{g:E3->Int}{es:List E3}{m k q:Nat}(h:q<m):(tabOf g es m k)[q]? =some (ixs g es q k):=by
 simp[tabOf,h]
theorem Q0Y{g:E3->Int}{es:List E3}{m k q:Nat}{e:E3}(he:es[k]? =some e)(hq:g e=(q:Int))(h:q<m):tabOf g es m (k+1)=(tabOf g es m k).set q (ixs g es q k++[(k:Int)]):=by
 refine List.ext_getElem? fun j=> ?_
 rw[List.getElem?_set]
 by_cases hj:j<m
 ·rw[z0w hj,z0w hj,q0q]
  simp only[ixs,he,Option.map_some,hq,oI]
  by_cases hjq:q=j
  ·subst hjq;simp[hj]
  ·have: ¬(q:Int)=(j:Int):=by omega
   simp[hjq,this]
 ·have h1:(tabOf g es m (k+1))[j]? =none:=by rw[List.getElem?_eq_none];rw[q0q];omega
  have h2:(tabOf g es m k)[j]? =none:=by rw[List.getElem?_eq_none];rw[q0q];omega
  have:q≠j:=by omega
  rw[h1,h2];simp[this]
end Go.Proofs.Ythjjbkiejkhjfaa.R
