/- - -/
import Derived.Test.YtglkhoamnmiolaaSa
import Derived.Test.YtglkhoamnmiolaaHa
import Derived.Test.YtglkhoamnmiolaaWa
set_option linter.all false
namespace Go.Proofs.Ytglkhoamnmiolaa.R
open Go Go.Proofs.Ytglkhoamnmiolaa.Vm
structure Tabs (H:Heap) (b:Nat) (c:List C) (r:List (List Int)):Prop where
 len:c.length=r.length
 own: ∀(k:Nat) (x:C) (l:List Int),c[k]? =some x->r[k]? =some l->OInts H b x l/\(l=[]->x= .nilSlice)
 apart: ∀(j k:Nat) (x y:C),j≠k->c[j]? =some x->c[k]? =some y->Apart x y
theorem OInts.put{H:Heap}{b i:Nat}{o:Vm.Obj}{x:C}{l:List Int}(h:OInts H b x l)(hi:i<b):OInts (H.put i o) b x l:=by
 refine⟨h.1,h.2.1,h.2.2.imp id fun⟨j,p,cs,h1,h2,h3,h4,h5⟩=>⟨j,p,cs,h1,h2,h3, ?_,h5⟩⟩
 rw[q0d (by omega)]
 exact h4
theorem Tabs.put{H:Heap}{b i:Nat}{o:Vm.Obj}{c:List C}{r:List (List Int)}(h:Tabs H b c r)(hi:i<b):Tabs (H.put i o) b c r:=
 ⟨h.len,fun k x l hx hl=>⟨OInts.put (h.own k x l hx hl).1 hi,(h.own k x l hx hl).2⟩,h.apart⟩
theorem Tabs.app{H:Heap}{lim b k:Nat}{c:List C}{r:List (List Int)}{x:C}{l:List Int}(h:Tabs H b c r)(hb:lim<=b)(hx:c[k]? =some x)(hl:r[k]? =some l)(v:Int)(hroom:l.length+1<=2 ^ 36):
  Heap.cellsOf (H.alloc (.cells 1 [.int .i64 v])) 1 (.slice H.next 0 1)=some [.int .i64 v]/\
  ∃c' H',Heap.app lim (H.alloc (.cells 1 [.int .i64 v])) 1 x [.int .i64 v] 1=some (c',H')/\Tabs H' b (c.set k c') (r.set k (l++[v]))/\(∀i,i<b->H'.get i=H.get i)/\H.next<=H'.next:=by
 obtain⟨ho,_⟩:=h.own k x l hx hl
 obtain⟨h1,c',H',h2,h3,h4,h5⟩:=OInts.append1 (lim:=lim) ho hb v hroom
 refine⟨h1,c',H',h2,⟨by simp[h.len], ?_, ?_⟩,fun i hi=>h4.keep i (nL hi ho.1) ?_,h4.next⟩
 ·intro j y m hy hm
  rw[List.getElem?_set]at hy hm
  by_cases hj:k=j
  ·rw[if_pos hj]at hy hm
   split at hy
   ·split at hm
    ·cases hy;cases hm
     exact⟨h3,fun e=>by simp at e⟩
    ·cases hm
   ·cases hy
  ·rw[if_neg hj]at hy hm
   obtain⟨g1,g2⟩:=h.own j y m hy hm
   exact⟨Own.kept g1 h4 (h.apart k j x y hj hx hy),g2⟩
 ·have fresh: ∀(j:Nat) (y:C),c[j]? =some y->Apart c' y/\Apart y c':=by
   intro j y hy
   have hjl:j<r.length:=by rw[<-h.len];exact(gE.1 hy).1
   obtain⟨g1,_⟩:=h.own j y r[j] hy (List.getElem?_eq_getElem hjl)
   have hyy: ∀i o n,y= .slice i o n->i<H.next:=by
    intro i o n e
    rcases g1.2.2 with⟨e2,_⟩ |⟨i',o',cs,e2,_,e3,_⟩
    ·rw[e]at e2;cases e2
    ·rw[e]at e2;cases e2;exact e3
   refine⟨fun i o n p m e1 e2=> ?_,fun i o n p m e1 e2=> ?_⟩
   ·have:=hyy _ _ _ e2
    rcases h5 with e |⟨i',o',n',e,e3⟩
    ·rw[e]at e1;cases e1
    ·rw[e]at e1;cases e1;omega
   ·have:=hyy _ _ _ e1
    rcases h5 with e |⟨i',o',n',e,e3⟩
    ·rw[e]at e2;cases e2
    ·rw[e]at e2;cases e2;omega
  intro i j y z hij hy hz
  rw[List.getElem?_set]at hy hz
  by_cases hi:k=i
  ·rw[if_pos hi]at hy
   have hj:k≠j:=fun e=>hij (hi.symm.trans e)
   rw[if_neg hj]at hz
   split at hy
   ·cases hy;exact(fresh j z hz).1
   ·cases hy
  ·rw[if_neg hi]at hy
   by_cases hj:k=j
   ·rw[if_pos hj]at hz
    split at hz
    ·cases hz;exact(fresh i y hy).2
    ·cases hz
   ·rw[if_neg hj]at hz
    exact h.apart i j y z hij hy hz
 ·intro o n e
  rcases ho.2.2 with⟨e2,_⟩ |⟨i',o',cs,e2,e3,_⟩
  ·rw[e]at e2;cases e2
  ·rw[e]at e2;cases e2;omega
theorem q0x{H:Heap}{i o z:Nat}{cs:List C}(h:H.get i=some (.cells z cs)):Heap.ld H i o=cs[o]? :=by
 unfold Heap.ld;rw[h]
theorem Q0Z{H:Heap}{lim i o z:Nat}{cs:List C}{x:C}(h:H.get i=some (.cells z cs))(hl:lim<=i)(ho:o<cs.length):Heap.st lim H i o [x]=some (H.put i (.cells z (cs.set o x))):=by
 unfold Heap.st
 rw[h]
 simp only
 rw[if_pos ⟨hl,by simp;omega⟩]
 rfl
theorem seen_same{H:Heap}{i o:Nat}{x:C}(h:Heap.ld H i o=some x):seenC H i o .c (.c x)=true:=by
 unfold seenC
 rw[h]
 exact w0q x
theorem z1A{H:Heap}{i o:Nat}{n:Int}(h:Heap.ld H i o=some (.int .i64 n)):seenC H i o (.int .i64) (.c (.int .i64 n))=true:=by
 unfold seenC
 rw[h]
 simp only[oS,K0.take,asI_int]
 exact w0q _
theorem z1B{H:Heap}{b:Nat}(h:b<=H.next){c:List C}{r:List (List Int)}(hl:c.length=r.length)(hc: ∀x∈c,x= .nilSlice)(hr: ∀l∈r,l=[]):Tabs H b c r:=by
 refine⟨hl,fun k x l hx hk=> ?_,fun j k x y _ hx _ i o n p m e _=> ?_⟩
 ·have e1:=hc x (List.mem_of_getElem? hx)
  have e2:=hr l (List.mem_of_getElem? hk)
  subst e1 e2
  exact⟨Own.nil h 1,fun _=>rfl⟩
 ·rw[hc x (List.mem_of_getElem? hx)]at e
  cases e
theorem Tabs.grow{H H':Heap}{b:Nat}{c:List C}{r:List (List Int)}(h:Tabs H b c r)(g:Grow H H'):Tabs H' b c r:=
 ⟨h.len,fun k x l hx hl=>⟨Own.grow (h.own k x l hx hl).1 g,(h.own k x l hx hl).2⟩,h.apart⟩
def TabO(H:Heap)(b:Nat)(r:List (List Int)):Prop:=b<H.next/\ ∃c,H.get b=some (.cells 1 c)/\c.length=r.length/\Tabs H (b+1) c r
theorem TabO.grow{H H':Heap}{b:Nat}{r:List (List Int)}(h:TabO H b r)(g:Grow H H'):TabO H' b r:=by
 obtain⟨h0,c,h1,h2,h3⟩:=h
 exact⟨nL h0 g.next,c,by rw[g.keep b h0];exact h1,h2,h3.grow g⟩
theorem TabO.new(H:Heap)(n:Nat):TabO (H.alloc (.cells 1 (List.replicate n [C.nilSlice]).flatten)) H.next (List.replicate n []):=by
 have e:(List.replicate n [C.nilSlice]).flatten=List.replicate n C.nilSlice:=by
  rw[show [C.nilSlice]=List.replicate 1 C.nilSlice from rfl,List.flatten_replicate_replicate,Nat.mul_one]
 rw[e]
 exact⟨Nat.lt_succ_self _,_,alloc_new _ _,by simp,z1B (nR _) (by simp) (fun x hx=>List.eq_of_mem_replicate hx) fun l hl=>List.eq_of_mem_replicate hl⟩
theorem TabO.push{H:Heap}{lim b k:Nat}{r:List (List Int)}{l:List Int}(h:TabO H b r)(hl:lim<=b)(hk:r[k]? =some l)(v:Int)(hroom:l.length+1<=2 ^ 36):
  ∃x,Heap.ld H b k=some x/\Heap.cellsOf (H.alloc (.cells 1 [.int .i64 v])) 1 (.slice H.next 0 1)=some [.int .i64 v]/\
  ∃c' H1,Heap.app lim (H.alloc (.cells 1 [.int .i64 v])) 1 x [.int .i64 v] 1=some (c',H1)/\(∀i,i<b+1->H1.get i=H.get i)/\
  ∃H2,Heap.st lim H1 b k [c']=some H2/\TabO H2 b (r.set k (l++[v]))/\(∀i,i<b->H2.get i=H.get i)/\H.next<=H2.next:=by
 obtain⟨h0,c,h1,h2,h3⟩:=h
 have hkl:k<r.length:=(gE.1 hk).1
 have hck:c[k]? =some c[k]:=List.getElem?_eq_getElem (by omega)
 obtain⟨p1,c',H1,p2,p3,p4,p5⟩:=h3.app (lim:=lim) (by omega) hck hk v hroom
 have hst:Heap.st lim H1 b k [c']=some (H1.put b (.cells 1 (c.set k c'))):=Q0Z (by rw[p4 b (by omega)];exact h1) hl (by omega)
 refine⟨c[k],by rw[q0x h1];exact hck,p1,c',H1,p2,p4,_,hst,⟨by show b<H1.next;omega,c.set k c',put_same _ _ _,by simp[h2],p3.put (by omega)⟩,fun i hi=> ?_,p5⟩
 rw[q0d (by omega)]
 exact p4 i (by omega)
def tabD(n:Nat)(ps:List (Int×Int)):List (List Int):=(List.range n).map fun(j:Nat)=>(ps.filter fun p=>decide (p.2=(j:Int))).map (·.1)
theorem j0e(n:Nat)(ps:List (Int×Int)):(tabD n ps).length=n:=by simp[tabD]
theorem j0E{n:Nat}{ps:List (Int×Int)}{j:Nat}(h:j<n):(tabD n ps)[j]? =some ((ps.filter fun p=>decide (p.2=(j:Int))).map (·.1)):=by simp[tabD,h]
theorem w0n(n:Nat):tabD n []=List.replicate n []:=by
 refine List.ext_getElem? fun j=> ?_
 by_cases h:j<n
 ·rw[j0E h,List.getElem?_replicate,if_pos h];rfl
 ·rw[List.getElem?_eq_none (by rw[j0e];omega),List.getElem?_eq_none (by simp;omega)]
theorem k0h{n:Nat}{ps:List (Int×Int)}{j:Nat}{v:Int}(h:j<n):tabD n (ps++[(v,(j:Int))])=(tabD n ps).set j (((ps.filter fun p=>decide (p.2=(j:Int))).map (·.1))++[v]):=by
 refine List.ext_getElem? fun i=> ?_
 rw[List.getElem?_set]
 by_cases hi:i<n
 ·rw[j0E hi,j0E hi,j0e,List.filter_append,List.map_append]
  by_cases e:j=i
  ·subst e;simp[hi]
  ·have: ¬((j:Int)=(i:Int)):=by omega
   simp[e,this]
 ·rw[List.getElem?_eq_none (by rw[j0e];omega),List.getElem?_eq_none (by rw[j0e];omega)]
  have:j≠i:=by omega
  simp[this]
theorem j0n(ps:List (Int×Int))(j:Nat):((ps.filter fun p=>decide (p.2=(j:Int))).map (·.1)).length<=ps.length:=by
 rw[List.length_map];exact List.length_filter_le _ _
def tabU(r:List (List Int)):List (Bool×List Int):=r.map fun l=>(!l.isEmpty,l)
section
variable{H:Heap}{F:Nat->Prop}
theorem J0a: ∀l:List Int,EsR H F (l.map uI) 1 (l.map rowI).flatten
 | []=>rfl
 |n::l=>⟨[.int .i64 n],_,rfl,rfl,⟨rfl,rfl⟩,J0a l⟩
theorem k1Y{b:Nat}{x:C}{l:List Int}(h:OInts H b x l)(hn:l=[]->x= .nilSlice)(hF: ∀i,b<=i->i<H.next->F i):UC H F (uIs (!l.isEmpty) l) [x]:=by
 by_cases hl:l=[]
 ·subst hl
  rw[hn rfl]
  exact .inl ⟨rfl,rfl,rfl⟩
 ·rcases h.2.2 with⟨_,h2⟩ |⟨i,o,cs,h1,h2,h3,h4,h5,h6⟩
  ·exact absurd (by simpa using h2) hl
  ·have hb:(!l.isEmpty)=true:=by cases l;exact absurd rfl hl;rfl
   rw[List.length_map]at h1 h5 h6
   refine .inr ⟨hb,i,o,cs,1,by rw[h1,List.length_map],hF i h2 h3,h4,by rw[List.length_map];exact h5, ?_⟩
   rw[List.length_map,h6]
   exact J0a l
theorem Y0T: ∀{us:List U} {cs:List C},us.length=cs.length->(∀(k:Nat) u c,us[k]? =some u->cs[k]? =some c->UC H F u [c])->EsR H F us 1 cs
 | [],[],_,_=>rfl
 |u::us,c::cs,hl,h=>⟨[c],cs,rfl,rfl,h 0 u c rfl rfl,Y0T (by simpa using hl) fun k u' c' h1 h2=>h (k+1) u' c' (by simpa using h1) (by simpa using h2)⟩
 | [],_::_,hl,_=>by cases hl
 |_::_,[],hl,_=>by cases hl
theorem TabO.uc{b:Nat}{r:List (List Int)}(h:TabO H b r)(hF: ∀i,b<=i->i<H.next->F i):UC H F (uLs true (tabU r)) [.slice b 0 r.length]:=by
 obtain⟨h0,c,h1,h2,h3⟩:=h
 refine .inr ⟨rfl,b,0,c,1,by simp[tabU],hF b (nR _) h0,h1,by simp[tabU];omega, ?_⟩
 rw[List.drop_zero]
 simp only[tabU,List.length_map,Nat.mul_one]
 rw[List.take_of_length_le (by omega)]
 refine Y0T (by simp;omega) fun k u x hu hx=> ?_
 simp only[List.map_map,List.getElem?_map]at hu
 obtain⟨l,hl,rfl⟩:=oM.1 hu
 obtain⟨g1,g2⟩:=h3.own k x l hx hl
 exact k1Y g1 g2 fun i hi hi2=>hF i (by omega) hi2
theorem rdN{b:Bool}{l:List Int}{c:C}(h:UC H F (uIs b l) [c]){k:Nat}{n:Int}(hk:l[k]? =some n): ∃i o,C.elem 1 c (k:Int)=some (i,o)/\F i/\H.ld i o=some (.int .i64 n):=by
 obtain⟨i,o,z,cs,e1,e2,e3,e4,e5⟩:=h.elem (k:=k) (u:=uI n) (by simp[hk])
 exact⟨i,o,e1,e2,ldX e3 (J0V e5.2)⟩
theorem rdL{b:Bool}{xs:List (Bool×List Int)}{c:C}(h:UC H F (uLs b xs) [c]){k:Nat}{x:Bool×List Int}(hk:xs[k]? =some x): ∃i o c2,C.elem 1 c (k:Int)=some (i,o)/\F i/\H.ld i o=some c2/\UC H F (uIs x.1 x.2) [c2]:=by
 obtain⟨i,o,z,cs,e1,e2,e3,e4,e5⟩:=h.elem (k:=k) (u:=uIs x.1 x.2) (by simp[hk])
 rw[size_uIs]at e1 e4 e5
 have hlen:((cs.drop o).take 1).length=1:=by rw[List.length_take,List.length_drop];omega
 match hc:(cs.drop o).take 1,hlen with
 | [c2],_=>
  rw[hc]at e5
  exact⟨i,o,c2,e1,e2,ldX e3 (J0V hc),e5⟩
theorem Q1s{b:Bool}{l:List Int}{c:C}(h:UC H F (uIs b l) [c]):C.len c=some l.length:=by have:=UC.lenC h;simpa using this
theorem w1M{b:Bool}{l:List (Bool×List Int)}{c:C}(h:UC H F (uLs b l) [c]):C.len c=some l.length:=by have:=UC.lenC h;simpa using this
end
end Go.Proofs.Ytglkhoamnmiolaa.R
