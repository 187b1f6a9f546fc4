/- - -/
import Derived.Test.YthjjbkiejkhjfaaOa
set_option linter.all false
namespace Go.Proofs.Ythjjbkiejkhjfaa.R
open Go Go.Proofs.Ythjjbkiejkhjfaa.Vm
def rowE(e:E3):List C:=[.int .i64 e.f, .int .i64 e.t, .int .i64 e.a]
abbrev uI(n:Int):U:= .c (.int .i64 n)
def uE(e:E3):U:= .st [uI e.f,uI e.t,uI e.a]
theorem z0l{H:Heap}{F:Nat->Prop}{n:Int}{xs:List C}(h:UC H F (uI n) xs):xs=[.int .i64 n]:=h.2
theorem Z0F{H:Heap}{F:Nat->Prop}: ∀{l:List E3} {sz:Nat} {xs:List C},EsR H F (l.map uE) sz xs->xs=(l.map rowE).flatten/\(l≠[]->sz=3)
 | [],sz,xs,h=>⟨h,fun h=>absurd rfl h⟩
 |e::l,sz,xs,h=>by
  obtain⟨a,b,rfl,h2,h3,h4⟩:=h
  obtain⟨g1,_⟩:=Z0F (l:=l) h4
  obtain⟨c0,_,rfl,_,k1,c1,_,rfl,_,k2,c2,_,rfl,_,k3,rfl⟩:=h3
  have e1:=z0l k1;have e2:=z0l k2;have e3:=z0l k3
  simp only[List.cons.injEq,and_true]at e1 e2 e3
  subst e1 e2 e3
  exact⟨by rw[g1];rfl,fun _=>h2.symm⟩
theorem w1J{H:Heap}{F:Nat->Prop}(hF: ∀i,F i->i<H.next){b:Bool}{l:List E3}{c:C}(h:UC H F (.sl b (l.map uE)) [c]):Sl H c 3 (l.map rowE):=by
 have hr: ∀r∈l.map rowE,r.length=3:=by intro r hr;obtain⟨e,_,rfl⟩:=List.mem_map.1 hr;rfl
 rcases h with⟨_,h1,h2⟩ |⟨_,i,o,cs,sz,h1,h2,h3,h4,h5⟩
 ·have:l=[]:=by simpa using h1
  subst this
  simp only[List.cons.injEq,and_true]at h2
  subst h2
  exact Sl.nil H 3
 ·simp only[List.cons.injEq,and_true,List.length_map]at h1
  obtain⟨g1,g2⟩:=Z0F h5
  rw[List.length_map]at h4 g1
  refine⟨hr, .inr ⟨i,o,sz,cs,by rw[h1];simp,hF i h2,h3, ?_⟩⟩
  rw[List.length_map]
  by_cases hl:l=[]
  ·subst hl;simp at h4⊢;omega
  ·rw[g2 hl]at h4 g1
   exact⟨h4,g1⟩
def GoodE(N:Nat)(e:E3):Prop:=0<=e.f/\e.f<N/\0<=e.a/\e.a<12
def gOut(e:E3):Int:=e.f
def gBy(e:E3):Int:=12*e.f+e.a
structure Inv (H0 H:Heap) (b0 N:Nat) (g1 g2:C) (es:List E3) (k:Nat):Prop where
 nxt:b0+3<=H.next
 old: ∀i,i<b0->H.get i=H0.get i
 X:H.get (b0+2)=some (.cells 5 [.int .i64 N,g1,g2, .slice b0 0 N, .slice (b0+1) 0 N])
 T: ∃c1 c2,c1.length=N/\c2.length=12*N/\H.get b0=some (.cells 1 c1)/\H.get (b0+1)=some (.cells 12 c2)/\Tabs H (b0+3) (c1++c2) (tabOf gOut es N k++tabOf gBy es (12*N) k)
theorem z0H{H:Heap}{i o z:Nat}{cs:List C}(h:H.get i=some (.cells z cs)):Heap.ld H i o=cs[o]? :=by
 unfold Heap.ld;rw[h]
theorem seen_same{H:Heap}{i o:Nat}{x:C}(h:Heap.ld H i o=some x):seenC H i o .c (.c x)=true:=by
 unfold seenC
 rw[h]
 exact J0J x
theorem X0h{H:Heap}{lim i o z:Nat}{cs:List C}{x:C}(h:H.get i=some (.cells z cs))(hl:lim<=i)(ho:o<cs.length):Heap.st lim H i o [x]=some (H.put i (.cells z (cs.set o x))):=by
 unfold Heap.st
 rw[h]
 simp only
 rw[if_pos ⟨hl,by simp;omega⟩]
 rfl
theorem X0i{α:Type}{l r:List α}{k:Nat}{x:α}(h:k<l.length):(l++r).set k x=l.set k x++r:=by
 rw[List.set_append,if_pos h]
theorem Z0G{α:Type}{l r:List α}{k:Nat}{x:α}:(l++r).set (l.length+k) x=l++r.set k x:=by
 rw[List.set_append,if_neg (by omega)]
 congr 2
 omega
theorem Inv.run{H0:Heap}{M:Mach}{b0 N:Nat}{g1 g2:C}{es:List E3}(hlim:M.lim<=b0)(hg: ∀e∈es,GoodE N e)(hes:es.length<=1000000)(hN:N<=1000000)(hsl:Sl H0 g2 3 (es.map rowE))(hb:H0.next=b0):
  ∀(d k:Nat) (H:Heap),k+d=es.length->Inv H0 H b0 N g1 g2 es k-> ∃H',f61_1 M (.ptr (b0+2) 0) g2 (es.length:Int) (k:Int) H=some (.c (.ptr (b0+2) 0),H')/\Inv H0 H' b0 N g1 g2 es es.length:=by
 intro d
 induction d with
 |zero=>
  intro k H hk h
  rw[W0C]
  have:k=es.length:=by omega
  subst this
  simp only[Int.lt_irrefl,dF,bF,iF]
  exact⟨H,rfl,h⟩
 |succ d ih=>
  intro k H hk h
  have hlt:k<es.length:=by omega
  obtain⟨e1,e2,e3,e4⟩:=hg _ (lM hlt)
  obtain⟨f,hf⟩:=iZ e1
  obtain⟨a,hA⟩:=iZ e3
  rw[hf]at e2;rw[hA]at e4
  have hfN:f<N:=by omega
  have hEs:es[k]? =some es[k]:=List.getElem?_eq_getElem hlt
  have gr:Grow H0 H:=⟨by have:=h.nxt;omega,fun i hi=>h.old i (by omega)⟩
  obtain⟨q,q1,q2⟩:=(hsl.grow gr).elem (j:=k) (r:=rowE es[k]) (by simp[hEs])
  have l0:=q2 0 _ rfl
  have l1:=q2 1 _ rfl
  have l2:Heap.ld H q.1 ((q.2+1)+1)=_:=q2 2 _ rfl
  rw[Nat.add_zero]at l0
  obtain⟨c1,c2,n1,n2,t1,t2,t3⟩:=h.T
  have x3:Heap.ld H (b0+2) (0+3)=some (.slice b0 0 N):=by rw[z0H h.X];rfl
  have el1:C.elem 1 (.slice b0 0 N) (f:Int)=some (b0,0+f*1):=by simp only[C.elem];rw[if_pos ⟨by omega,by omega⟩];simp
  have c1f:c1[f]? =some c1[f]:=List.getElem?_eq_getElem (by omega)
  have ldc:Heap.ld H b0 (0+f*1)=some c1[f]:=by rw[z0H t1,show 0+f*1=f by omega];exact c1f
  obtain⟨p1,cn,H2,p2,p3,p4,p5⟩:=t3.app (lim:=M.lim) (k:=f) (x:=c1[f]) (l:=ixs gOut es f k) (by omega) (by rw[List.getElem?_append_left (by omega)];exact c1f) (by rw[List.getElem?_append_left (by rw[q0q];omega),z0w hfN]) (k:Int) (by have:=K0Z gOut es f k;omega)
  rw[X0i (by omega),X0i (by rw[q0q];omega),<-Q0Y hEs (show gOut es[k]=(f:Int)from hf) hfN]at p3
  have x3':Heap.ld H2 (b0+2) (0+3)=some (.slice b0 0 N):=by rw[z0H (by rw[p4 _ (by omega)];exact h.X)];rfl
  have s1:Heap.st M.lim H2 b0 (0+f*1) [cn]=some (H2.put b0 (.cells 1 (c1.set f cn))):=by
   rw[show 0+f*1=f by omega]
   exact X0h (by rw[p4 _ (by omega)];exact t1) hlim (by omega)
  have t3':=p3.put (i:=b0) (o:= .cells 1 (c1.set f cn)) (by omega)
  generalize hH3:H2.put b0 (.cells 1 (c1.set f cn))=H3 at s1 t3'
  have g3: ∀i,i<b0+3->i≠b0->H3.get i=H.get i:=fun i hi hne=>by rw[<-hH3,j0T hne];exact p4 i hi
  have g30:H3.get b0=some (.cells 1 (c1.set f cn)):=by rw[<-hH3,put_same]
  have n3:H.next<=H3.next:=by rw[<-hH3];exact p5
  have X3:=h.X
  rw[<-g3 (b0+2) (by omega) (by omega)]at X3
  have t23:=t2
  rw[<-g3 (b0+1) (by omega) (by omega)]at t23
  have x4:Heap.ld H3 (b0+2) (0+4)=some (.slice (b0+1) 0 N):=by rw[z0H X3];rfl
  have el2:C.elem 12 (.slice (b0+1) 0 N) (f:Int)=some (b0+1,0+f*12):=by simp only[C.elem];rw[if_pos ⟨by omega,by omega⟩];simp
  have hq:12*f+a<12*N:=by omega
  have c2f:c2[12*f+a]? =some c2[12*f+a]:=List.getElem?_eq_getElem (by omega)
  have ix:(0+f*12)+Int.toNat (a:Int)*1=12*f+a:=by rw[iN];omega
  have ldc2:Heap.ld H3 (b0+1) ((0+f*12)+Int.toNat (a:Int)*1)=some c2[12*f+a]:=by rw[z0H t23,ix];exact c2f
  have hgb:gBy es[k]=((12*f+a:Nat):Int):=by unfold gBy;rw[hf,hA];omega
  have hl1:(c1.set f cn).length=N:=by simp[n1]
  obtain⟨r1,cm,H4,r2,r3,r4,r5⟩:=t3'.app (lim:=M.lim) (k:=(c1.set f cn).length+(12*f+a)) (x:=c2[12*f+a]) (l:=ixs gBy es (12*f+a) k) (by omega) (by rw[List.getElem?_append_right (by omega),Nat.add_sub_cancel_left];exact c2f) (by rw[hl1,List.getElem?_append_right (by rw[q0q];omega),q0q,Nat.add_sub_cancel_left,z0w hq]) (k:Int) (by have:=K0Z gBy es (12*f+a) k;omega)
  have hset:(tabOf gOut es N (k+1)++tabOf gBy es (12*N) k).set ((c1.set f cn).length+(12*f+a)) (ixs gBy es (12*f+a) k++[(k:Int)])=tabOf gOut es N (k+1)++tabOf gBy es (12*N) (k+1):=by
   rw[Q0Y hEs hgb hq,hl1,<-Z0G,q0q]
  rw[Z0G,hset]at r3
  have x4':Heap.ld H4 (b0+2) (0+4)=some (.slice (b0+1) 0 N):=by rw[z0H (by rw[r4 _ (by omega)];exact X3)];rfl
  have s2:Heap.st M.lim H4 (b0+1) ((0+f*12)+Int.toNat (a:Int)*1) [cm]=some (H4.put (b0+1) (.cells 12 (c2.set (12*f+a) cm))):=by
   rw[ix]
   exact X0h (by rw[r4 _ (by omega)];exact t23) (by omega) (by omega)
  have t4':=r3.put (i:=b0+1) (o:= .cells 12 (c2.set (12*f+a) cm)) (by omega)
  have hinv:Inv H0 (H4.put (b0+1) (.cells 12 (c2.set (12*f+a) cm))) b0 N g1 g2 es (k+1):=by
   refine⟨?_,fun i hi=> ?_, ?_,c1.set f cn,c2.set (12*f+a) cm,hl1,by simp[n2], ?_,put_same _ _ _,t4'⟩
   ·show b0+3<=H4.next
    have:=h.nxt;omega
   ·rw[j0T (by omega),r4 _ (by omega),g3 i (by omega) (by omega)];exact h.old i hi
   ·rw[j0T (by omega),r4 _ (by omega)];exact X3
   ·rw[j0T (by omega),r4 _ (by omega)];exact g30
  obtain⟨H',k1,k2⟩:=ih (k+1) _ (by omega) hinv
  refine⟨H', ?_,k2⟩
  rw[W0C]
  have hw:IntKind.wrap .i64 ((k:Int)+1)=((k+1:Nat):Int):=by rw[z0s (by omega) (by omega)];simp
  have a12:(0:Int)<=(a:Int)/\(a:Int)<((12:Nat):Int):=⟨by omega,by omega⟩
  simp only[show((k:Int)<(es.length:Int)) by omega,dY,iT,q1,oS,l0,l1,l2,asI_int,withP_ptr,x3,hf,hA,el1,ldc,p1,p2,seen_same x3',s1,x4,el2,a12,ldc2,r1,r2,seen_same x4',s2,hw,k1,and_self]
end Go.Proofs.Ythjjbkiejkhjfaa.R
