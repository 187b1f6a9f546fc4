/- - -/
import Derived.Test.YtglkhoamnmiolaaTa
set_option linter.all false
namespace Go.Proofs.Ytglkhoamnmiolaa.R
open Go Go.Proofs.Ytglkhoamnmiolaa.Vm
section
variable{nx:Nat->List Nat}{n:Nat}
theorem k0I{σ:TS}{G:List Nat}(h:TInv nx n σ G){x y:Nat}(hx:0<=σ.of x)(hr:Rch nx x y):0<=σ.of y:=by
 induction hr with
 |refl=>exact hx
 |step h1 _ ih=>exact ih ((h.cls _ hx).2.2 _ h1)
theorem Y0V{σ:TS}{G:List Nat}(h:TInv nx n σ G)(v x:Nat):TInv nx n (σ.setLow v x) G:=⟨h.lt,h.dec,h.mem,h.cle,h.gst,h.back,h.fwd,h.blk,h.cls,h.scc⟩
variable(hnx: ∀x,∀y∈nx x,y<n)
theorem z1C{σ0 σ σ1:TS}{v w:Nat}{G done:List Nat}(h:TLoop nx n σ0 σ v G done)(hv0:σ0.num v=0)(hw:w∈nx v)(hw0:σ.num w=0)(hp:TPost nx n σ σ1 w (v::G)):
  TLoop nx n σ0 (σ1.setLow v (min (σ1.low v) (σ1.low w))) v G (w::done):=by
 obtain⟨new,n1,n2⟩:=h.new
 obtain⟨new1,m1,m2⟩:=hp.new
 have hvn:σ.num v≠0:=by rw[h.numv];omega
 have hwv:w≠v:=fun e=>by rw[e]at hw0;exact hvn hw0
 have hlv:σ1.low v=σ.low v:=hp.low v hvn
 have hnum0: ∀x,σ0.num x≠0->σ.num x≠0:=fun x hx=>by rw[h.num x hx];exact hx
 have hst0: ∀x∈σ0.st,x∈σ.st:=fun x hx=>by rw[n1];exact mA.2 (.inr (List.mem_cons_of_mem _ hx))
 have hvst:v∈σ.st:=by rw[n1];simp
 have hin: ∀x∈σ.st,σ.num x≠0:=fun x hx=>((h.inv.mem x).1 hx).1
 have hL:(σ1.setLow v (min (σ1.low v) (σ1.low w))).low v=min (σ.low v) (σ1.low w):=by
  show(if v=v then _ else _)=_
  rw[if_pos rfl,hlv]
 have hLle:(σ1.setLow v (min (σ1.low v) (σ1.low w))).low v<=σ.low v:=by rw[hL];exact Nat.min_le_left _ _
 refine⟨Y0V hp.inv _ _,fun x hx=>(hp.num x (hnum0 x hx)).trans (h.num x hx),fun x hx=> ?_,fun x hx=> ?_, ?_,(hp.num v hvn).trans h.numv, ?_, ?_,fun x hx hx0 hxv y hy hyst=> ?_,fun y hy=> ?_,fun y hy=> ?_⟩
 ·have:=h.ofs x hx
  exact(hp.ofs x (by rw[this];exact hx)).trans this
 ·have hxv:x≠v:=fun e=>by rw[e]at hx;exact hx hv0
  show(if x=v then _ else σ1.low x)=_
  rw[if_neg hxv,hp.low x (hnum0 x hx),h.low x hx]
 ·refine⟨new1++new,by show σ1.st=_;rw[m1,n1,List.append_assoc],fun x hx=> ?_⟩
  rcases mA.1 hx with g |g
  ·have:=m2 x g
   exact⟨Classical.byContradiction fun e=>hnum0 x e this,fun e=>by rw[e]at this;exact hvn this⟩
  ·exact n2 x g
 ·rw[show(σ1.setLow v (min (σ1.low v) (σ1.low w))).num v=σ.num v from hp.num v hvn]
  exact nT hLle h.le
 ·rw[hL]
  rcases Nat.le_total (σ.low v) (σ1.low w)with hle |hle
  ·rw[Nat.min_eq_left hle]
   obtain⟨y,y1,y2,y3⟩:=h.ex
   refine⟨y,y1, ?_,y3⟩
   have:σ.num y≠0:=by
    rcases y1 with e |e
    ·rw[e];exact hvn
    ·exact hin y (hst0 y e)
   rw[show(σ1.setLow v (min (σ1.low v) (σ1.low w))).num y=σ.num y from hp.num y this];exact y2
  ·rw[Nat.min_eq_right hle]
   have hcv:σ.num v<=σ.c:=h.inv.cle v
   by_cases hws:w∈σ1.st
   ·obtain⟨y,y1,y2,y3⟩:=hp.lowv hws
    refine⟨y, ?_,by rw[show(σ1.setLow v (min (σ1.low v) (σ1.low w))).num y=σ.num y from hp.num y (hin y y1)];exact y2, .step hw y3⟩
    by_cases e:σ.num y<σ.num v
    ·have hd:=h.inv.dec
     rw[n1]at hd y1
     exact .inr (q1N hd y1 e)
    ·
     have hy:σ.num y=σ.num v:=by have:=h.le;omega
     have hd:=h.inv.dec
     rw[n1]at hd y1
     obtain⟨d1,d2⟩:=J0r hd
     rcases mA.1 y1 with g |g
     ·have:=d1 y g;omega
     ·rcases mC.1 g with g |g
      ·exact .inl g
      ·have:=d2 y g;omega
   ·have:=hp.lowc hws
    have:=h.le
    omega
 ·
  have hyσ:y∈σ.st:=hst0 y hyst
  rw[show(σ1.setLow v (min (σ1.low v) (σ1.low w))).num y=σ.num y from hp.num y (hin y hyσ)]
  rw[hL]
  have hx1:x∈σ1.st:=hx
  by_cases e:σ.num x=0
  ·have:=hp.cross x hx1 e y hy hyσ
   exact nT (Nat.min_le_right _ _) this
  ·have hxσ:x∈σ.st:=by
    rw[m1]at hx1
    rcases mA.1 hx1 with g |g
    ·exact absurd (m2 x g) e
    ·exact g
   exact nT (Nat.min_le_left _ _) (h.cross x hxσ hx0 hxv y hy hyst)
 ·rcases mC.1 hy with e |e
  ·subst e
   have hy0: ∀(_:y∈σ0.st),False:=fun g=>hin y (hst0 y g) hw0
   exact⟨by show σ1.num y≠0;have:=hp.numv;omega,fun g=>(hy0 g).elim⟩
  ·obtain⟨d1,d2⟩:=h.dn y e
   have hn:(σ1.setLow v (min (σ1.low v) (σ1.low w))).num y=σ.num y:=hp.num y d1
   rw[hn]
   exact⟨d1,fun g=>nT hLle (d2 g)⟩
 ·rcases mC.1 hy with e |e
  ·rw[e];exact hw
  ·exact h.sub y e
theorem w1N{σ0 σ:TS}{v w:Nat}{G done:List Nat}(h:TLoop nx n σ0 σ v G done)(hv0:σ0.num v=0)(hw:w∈nx v)(hw0:σ.num w≠0)(hof:σ.of w<0):TLoop nx n σ0 (σ.setLow v (min (σ.low v) (σ.num w))) v G (w::done):=by
 obtain⟨new,n1,n2⟩:=h.new
 have hws:w∈σ.st:=(h.inv.mem w).2 ⟨hw0,hof⟩
 have hL:(σ.setLow v (min (σ.low v) (σ.num w))).low v=min (σ.low v) (σ.num w):=if_pos rfl
 have hLle:(σ.setLow v (min (σ.low v) (σ.num w))).low v<=σ.low v:=by rw[hL];exact Nat.min_le_left _ _
 refine⟨Y0V h.inv _ _,h.num,h.ofs,fun x hx=> ?_,h.new,h.numv,nT hLle h.le, ?_,fun x hx hx0 hxv y hy hyst=>nT hLle (h.cross x hx hx0 hxv y hy hyst),fun y hy=> ?_,fun y hy=> ?_⟩
 ·have hxv:x≠v:=fun e=>by rw[e]at hx;exact hx hv0
  show(if x=v then _ else σ.low x)=_
  rw[if_neg hxv];exact h.low x hx
 ·rw[hL]
  rcases Nat.lt_or_ge (σ.num w) (σ.low v)with hlt |hge
  ·rw[Nat.min_eq_right (Nat.le_of_lt hlt)]
   have hd:=h.inv.dec
   rw[n1]at hd hws
   exact⟨w, .inr (q1N hd hws (by have:=h.le;omega)),rfl, .one hw⟩
  ·rw[Nat.min_eq_left hge];exact h.ex
 ·rcases mC.1 hy with e |e
  ·subst e;exact⟨hw0,fun _=>by rw[hL];exact Nat.min_le_right _ _⟩
  ·exact⟨(h.dn y e).1,fun g=>nT hLle ((h.dn y e).2 g)⟩
 ·rcases mC.1 hy with e |e
  ·rw[e];exact hw
  ·exact h.sub y e
theorem w1O{σ0 σ:TS}{v w:Nat}{G done:List Nat}(h:TLoop nx n σ0 σ v G done)(hw:w∈nx v)(hw0:σ.num w≠0)(hof: ¬σ.of w<0):TLoop nx n σ0 σ v G (w::done):=by
 obtain⟨new,n1,n2⟩:=h.new
 refine⟨h.inv,h.num,h.ofs,h.low,h.new,h.numv,h.le,h.ex,h.cross,fun y hy=> ?_,fun y hy=> ?_⟩
 ·rcases mC.1 hy with e |e
  ·subst e
   refine⟨hw0,fun g=> ?_⟩
   have:y∈σ.st:=by rw[n1];exact mA.2 (.inr (List.mem_cons_of_mem _ g))
   exact absurd ((h.inv.mem y).1 this).2 hof
  ·exact h.dn y e
 ·rcases mC.1 hy with e |e
  ·rw[e];exact hw
  ·exact h.sub y e
theorem z1D{σ0 σ:TS}{v:Nat}{G done:List Nat}(h0:TInv nx n σ0 G)(h:TLoop nx n σ0 σ v G done)(hv0:σ0.num v=0)(hall: ∀y∈nx v,y∈done)(hlt:σ.low v<σ.num v):TPost nx n σ0 σ v G:=by
 obtain⟨new,n1,n2⟩:=h.new
 obtain⟨y,y1,y2,y3⟩:=h.ex
 have hd:=h.inv.dec
 rw[n1]at hd
 obtain⟨d1,d2⟩:=J0r hd
 have hvG:v∉G:=fun e=>((h0.mem v).1 (h0.gst v e)).1 hv0
 have hys:y∈σ0.st:=y1.resolve_left fun e=>by rw[e]at y2;omega
 have hyσ:y∈σ.st:=by rw[n1];exact mA.2 (.inr (List.mem_cons_of_mem _ hys))
 have vback: ∃g∈G,σ.num g<=σ.num y/\Rch nx v g:=by
  obtain⟨g,g1,g2,g3⟩:=h.inv.back y hyσ
  rcases mC.1 g1 with e |e
  ·rw[e]at g2;have:=d2 y hys;omega
  ·exact⟨g,e,g2,y3.trans g3⟩
 refine⟨⟨h.inv.lt,h.inv.dec,h.inv.mem,h.inv.cle,fun g hg=>h.inv.gst g (List.mem_cons_of_mem _ hg),fun x hx=> ?_,fun g hg=>h.inv.fwd g (List.mem_cons_of_mem _ hg),fun x hx hxG z hz=> ?_,h.inv.cls,h.inv.scc⟩,h.num,h.ofs,h.low,⟨new++[v],by rw[n1];simp,fun x hx=> ?_⟩,by rw[h.numv];omega,fun _=>⟨y,hys, ?_,y3⟩,fun hn=> ?_,fun x hx hx0 z hz hzs=> ?_, ?_⟩
 ·obtain⟨g,g1,g2,g3⟩:=h.inv.back x hx
  rcases mC.1 g1 with e |e
  ·subst e
   obtain⟨g',k1,k2,k3⟩:=vback
   have:=d2 y hys
   exact⟨g',k1,by omega,g3.trans k3⟩
  ·exact⟨g,e,g2,g3⟩
 ·by_cases e:x=v
  ·subst e;exact(h.dn z (hall z hz)).1
  ·exact h.inv.blk x hx (fun g=>(mC.1 g).elim e hxG) z hz
 ·rcases mA.1 hx with g |g
  ·exact(n2 x g).1
  ·rw[List.mem_singleton.1 g];exact hv0
 ·have:σ0.num y≠0:=((h0.mem y).1 hys).1
  rw[<-h.num y this];exact y2
 ·exact absurd (show v∈σ.st by rw[n1];simp) hn
 ·have hz0:σ0.num z≠0:=((h0.mem z).1 hzs).1
  rw[<-h.num z hz0]
  by_cases e:x=v
  ·subst e;exact(h.dn z (hall z hz)).2 hzs
  ·exact h.cross x hx hx0 e z hz hzs
 ·have:=h.inv.cle v;rw[h.numv]at this;omega
theorem Y0W{σ0 σ:TS}{v:Nat}{G done:List Nat}(h0:TInv nx n σ0 G)(h:TLoop nx n σ0 σ v G done)(hv0:σ0.num v=0)(hall: ∀y∈nx v,y∈done)(hge: ¬σ.low v<σ.num v):TPost nx n σ0 (σ.close v) v G:=by
 obtain⟨new,n1,n2⟩:=h.new
 have hd:=h.inv.dec
 rw[n1]at hd
 obtain⟨d1,d2⟩:=J0r hd
 have hlow:σ.low v=σ.num v:=by have:=h.le;omega
 have hvn:v∉new:=fun e=>(n2 v e).2 rfl
 have hvG:v∉G:=fun e=>((h0.mem v).1 (h0.gst v e)).1 hv0
 have hC:σ.close v={σ with st:=σ0.st,of:=fun u=>if u∈new\/u=v then(σ.f:Int)else σ.of u,f:=σ.f+1}:=by
  unfold TS.close
  rw[n1,W0V hvn]
 have memC: ∀u,(u∈new\/u=v)↔(u∈σ.st/\u∉σ0.st):=fun u=>by
  rw[n1,mA,mC]
  constructor
  ·rintro(g |g)
   ·exact⟨.inl g,fun e=>by have:=(n2 u g).1;exact((h0.mem u).1 e).1 this⟩
   ·subst g;exact⟨.inr (.inl rfl),fun e=>((h0.mem u).1 e).1 hv0⟩
  ·rintro⟨g |g |g,e⟩
   ·exact .inl g
   ·exact .inr g
   ·exact absurd g e
 have inC: ∀u,(u∈new\/u=v)->u∈σ.st/\σ.num v<=σ.num u:=fun u hu=>⟨((memC u).1 hu).1,by
  rcases hu with g |g
  ·exact Nat.le_of_lt (d1 u g)
  ·rw[g];exact nR _⟩
 have nodeC: ∀u,(u∈new\/u=v)-> ∀z∈nx u,(z∈new\/z=v)\/0<=σ.of z:=fun u hu z hz=>by
  have hz0:σ.num z≠0:=by
   rcases hu with g |g
   ·refine h.inv.blk u ((h.inv.mem u).1 (inC u (.inl g)).1).1 (fun e=> ?_) z hz
    rcases mC.1 e with e |e
    ·rw[e]at g;exact hvn g
    ·exact((memC u).1 (.inl g)).2 (h0.gst u e)
   ·rw[g]at hz;exact(h.dn z (hall z hz)).1
  rcases Int.lt_or_le (σ.of z) 0 with hzo |hzo
  ·have hzs:z∈σ.st:=(h.inv.mem z).2 ⟨hz0,hzo⟩
   by_cases hz1:z∈σ0.st
   ·exfalso
    have hzlt:σ.num z<σ.num v:=d2 z hz1
    have:σ.low v<=σ.num z:=by
     rcases hu with g |g
     ·exact h.cross u (inC u (.inl g)).1 (n2 u g).1 (n2 u g).2 z hz hz1
     ·rw[g]at hz;exact(h.dn z (hall z hz)).2 hz1
    omega
   ·exact .inl ((memC z).2 ⟨hzs,hz1⟩)
  ·exact .inr hzo
 have reachC: ∀{u z},Rch nx u z->(u∈new\/u=v)->(z∈new\/z=v)\/0<=σ.of z:=fun{u z} hr=>by
  induction hr with
  |refl=>exact fun hu=> .inl hu
  |step h1 h2 ih=>
   intro hu
   rcases nodeC _ hu _ h1 with g |g
   ·exact ih g
   ·exact .inr (k0I h.inv g h2)
 have cfalse: ∀u,(u∈new\/u=v)-> ¬0<=σ.of u:=fun u hu e=>by have:=((h.inv.mem u).1 (inC u hu).1).2;omega
 have toV: ∀u,(u∈new\/u=v)->Rch nx u v:=fun u hu=>by
  obtain⟨g,g1,g2,g3⟩:=h.inv.back u (inC u hu).1
  rcases mC.1 g1 with e |e
  ·rw[e]at g3;exact g3
  ·exfalso
   rcases reachC g3 hu with k |k
   ·exact((memC g).1 k).2 (h0.gst g e)
   ·have hgs:=h.inv.gst g (List.mem_cons_of_mem _ e)
    have:=((h.inv.mem g).1 hgs).2;omega
 have fromV: ∀u,(u∈new\/u=v)->Rch nx v u:=fun u hu=>h.inv.fwd v List.mem_cons_self u (inC u hu).1 (inC u hu).2
 have numst: ∀x∈σ0.st,σ0.num x≠0:=fun x hx=>((h0.mem x).1 hx).1
 have st0σ: ∀x∈σ0.st,x∈σ.st:=fun x hx=>by rw[n1];exact mA.2 (.inr (List.mem_cons_of_mem _ hx))
 have ofC: ∀u,¬(u∈new\/u=v)->(σ.close v).of u=σ.of u:=fun u hu=>by rw[hC];exact if_neg hu
 have ofC1: ∀u,(u∈new\/u=v)->(σ.close v).of u=(σ.f:Int):=fun u hu=>by rw[hC];exact if_pos hu
 have stC:(σ.close v).st=σ0.st:=by rw[hC]
 have numC:(σ.close v).num=σ.num:=by rw[hC]
 have lowC:(σ.close v).low=σ.low:=by rw[hC]
 have cC:(σ.close v).c=σ.c:=by rw[hC]
 have fC:(σ.close v).f=σ.f+1:=by rw[hC]
 have closedC: ∀x,0<=(σ.close v).of x↔(x∈new\/x=v)\/0<=σ.of x:=fun x=>by
  by_cases hx:x∈new\/x=v
  ·rw[ofC1 x hx];exact⟨fun _=> .inl hx,fun _=>by omega⟩
  ·rw[ofC x hx];exact⟨.inr,fun g=>g.resolve_left hx⟩
 refine⟨⟨fun x hx=>h.inv.lt x (by rw[numC]at hx;exact hx), ?_,fun x=> ?_,fun x=> ?_,fun g hg=>by rw[stC];exact h0.gst g hg,fun x hx=> ?_,fun g hg x hx hle=> ?_,fun x hx hxG z hz=> ?_,fun x hx=> ?_,fun x z hx hz=> ?_⟩,fun x hx=>by rw[numC];exact h.num x hx,fun x hx=> ?_,fun x hx=>by rw[lowC];exact h.low x hx,⟨[],by rw[stC];rfl,fun x hx=>(by cases hx)⟩,by rw[numC,h.numv];omega,fun hs=> ?_,fun _=>by rw[lowC,hlow,h.numv];omega,fun x hx hx0=> ?_, ?_⟩
 ·rw[stC,numC]
  rw[List.pairwise_append,List.pairwise_cons]at hd
  exact hd.2.1.2
 ·rw[stC,numC]
  constructor
  ·intro hx
   have hxn: ¬(x∈new\/x=v):=fun g=>((memC x).1 g).2 hx
   rw[ofC x hxn]
   exact(h.inv.mem x).1 (st0σ x hx)
  ·rintro⟨g1,g2⟩
   have hxn: ¬(x∈new\/x=v):=fun g=>by rw[ofC1 x g]at g2;omega
   rw[ofC x hxn]at g2
   have:=(h.inv.mem x).2 ⟨g1,g2⟩
   exact Classical.byContradiction fun e=>hxn ((memC x).2 ⟨this,e⟩)
 ·rw[numC,cC];exact h.inv.cle x
 ·rw[stC]at hx
  obtain⟨g,g1,g2,g3⟩:=h.inv.back x (st0σ x hx)
  rw[numC]
  rcases mC.1 g1 with e |e
  ·rw[e]at g2;have:=d2 x hx;omega
  ·exact⟨g,e,g2,g3⟩
 ·rw[stC]at hx
  rw[numC]at hle
  exact h.inv.fwd g (List.mem_cons_of_mem _ hg) x (st0σ x hx) hle
 ·rw[numC]at hx⊢
  by_cases e:x=v
  ·rw[e]at hz;exact(h.dn z (hall z hz)).1
  ·exact h.inv.blk x hx (fun g=>(mC.1 g).elim e hxG) z hz
 ·rw[numC,fC]
  rcases(closedC x).1 hx with g |g
  ·refine⟨((h.inv.mem x).1 (inC x g).1).1,by rw[ofC1 x g];omega,fun z hz=>(closedC z).2 (nodeC x g z hz)⟩
  ·obtain⟨c1,c2,c3⟩:=h.inv.cls x g
   have hxn: ¬(x∈new\/x=v):=fun k=>cfalse x k g
   exact⟨c1,by rw[ofC x hxn];omega,fun z hz=>(closedC z).2 (.inr (c3 z hz))⟩
 ·rcases(closedC x).1 hx with g |g<;>rcases(closedC z).1 hz with k |k
  ·rw[ofC1 x g,ofC1 z k]
   exact⟨fun _=>⟨(toV x g).trans (fromV z k),(toV z k).trans (fromV x g)⟩,fun _=>rfl⟩
  ·have hzn: ¬(z∈new\/z=v):=fun e=>cfalse z e k
   rw[ofC1 x g,ofC z hzn]
   have:=(h.inv.cls z k).2.1
   exact⟨fun e=>by omega,fun⟨_,e2⟩=>absurd (k0I h.inv k e2) (cfalse x g)⟩
  ·have hxn: ¬(x∈new\/x=v):=fun e=>cfalse x e g
   rw[ofC1 z k,ofC x hxn]
   have:=(h.inv.cls x g).2.1
   exact⟨fun e=>by omega,fun⟨e2,_⟩=>absurd (k0I h.inv g e2) (cfalse z k)⟩
  ·have hxn: ¬(x∈new\/x=v):=fun e=>cfalse x e g
   have hzn: ¬(z∈new\/z=v):=fun e=>cfalse z e k
   rw[ofC x hxn,ofC z hzn]
   exact h.inv.scc x z g k
 ·have hx':=h.ofs x hx
  have hxn: ¬(x∈new\/x=v):=fun g=>cfalse x g (by rw[hx'];exact hx)
  rw[ofC x hxn];exact hx'
 ·rw[stC]at hs
  exact absurd hv0 (numst v hs)
 ·rw[stC]at hx
  exact absurd hx0 (numst x hx)
 ·rw[cC];have:=h.inv.cle v;rw[h.numv]at this;omega
include hnx
theorem J1n: ∀(k:Nat) (σ:TS) (v:Nat) (G:List Nat),TInv nx n σ G->v<n->σ.num v=0->(∀g∈G,Rch nx g v)->rest n σ<=k-> ∃σ',vis nx k σ v=some σ'/\TPost nx n σ σ' v G:=by
 intro k
 induction k with
 |zero=>
  intro σ v G h hv h0 hg hk
  have:rest n (σ.enter v)<rest n σ:=J0q (fun x hx=>by
   show(if x=v then _ else σ.num x)≠0
   split
   ·omega
   ·exact hx) hv h0 (by show(if v=v then _ else _)≠0;rw[if_pos rfl];omega)
  omega
 |succ k ih=>
  intro σ0 v G h hv h0 hg hk
  have hof: ∀{σ:TS} {G:List Nat},TInv nx n σ G-> ∀w,σ.num w=0->σ.of w<0:=fun{σ G} h w hw=>by
   rcases Int.lt_or_le (σ.of w) 0 with g |g
   ·exact g
   ·exact absurd hw (h.cls w g).1
  have loop: ∀(ws done:List Nat) (σ:TS),TLoop nx n σ0 σ v G done->(∀w∈ws,w∈nx v)-> ∃σ',visL (vis nx k) v ws σ=some σ'/\ ∃done',TLoop nx n σ0 σ' v G done'/\(∀y∈done,y∈done')/\ ∀y∈ws,y∈done':=by
   intro ws
   induction ws with
   |nil=>intro done σ hl _;exact⟨σ,rfl,done,hl,fun _ h=>h,fun _ h=>(by cases h)⟩
   |cons w ws ihw=>
    intro done σ hl hws
    have hw:w∈nx v:=hws w (by simp)
    have hws': ∀u∈ws,u∈nx v:=fun u hu=>hws u (by simp[hu])
    have fin: ∀σ1,TLoop nx n σ0 σ1 v G (w::done)->(visL (vis nx k) v (w::ws) σ=visL (vis nx k) v ws σ1)-> ∃σ',visL (vis nx k) v (w::ws) σ=some σ'/\ ∃done',TLoop nx n σ0 σ' v G done'/\(∀y∈done,y∈done')/\ ∀y∈w::ws,y∈done':=fun σ1 h1 he=>by
     obtain⟨σ',g1,done',g2,g3,g4⟩:=ihw (w::done) σ1 h1 hws'
     exact⟨σ',he.trans g1,done',g2,fun y hy=>g3 y (by simp[hy]),fun y hy=>(mC.1 hy).elim (fun e=>by rw[e];exact g3 w (by simp)) (g4 y)⟩
    by_cases hw0:σ.num w=0
    ·have hrest:rest n σ<=k:=by
      have:rest n σ<rest n σ0:=J0q (fun x hx=>by rw[hl.num x hx];exact hx) hv h0 (by rw[hl.numv];omega)
      omega
     obtain⟨new,n1,_⟩:=hl.new
     obtain⟨σ1,p1,p2⟩:=ih σ w (v::G) hl.inv (hnx v w hw) hw0 (fun g hgm=>by
      rcases mC.1 hgm with e |e
      ·rw[e];exact .one hw
      ·exact(hg g e).trans (.one hw)) hrest
     refine fin _ (z1C hl h0 hw hw0 p2) ?_
     simp only[visL,hw0,iT,p1,oS]
    ·by_cases ho:σ.of w<0
     ·refine fin _ (w1N hl h0 hw hw0 ho) ?_
      simp only[visL,if_neg hw0,if_pos ho]
     ·refine fin _ (w1O hl hw hw0 ho) ?_
      simp only[visL,if_neg hw0,if_neg ho]
  obtain⟨σ',g1,done,g2,_,g3⟩:=loop (nx v) [] _ (X0O h hv h0 hg (hof h v h0)) (fun _ h=>h)
  by_cases hlt:σ'.low v<σ'.num v
  ·exact⟨σ',by simp only[vis,g1,oS,if_pos hlt],z1D h g2 h0 g3 hlt⟩
  ·obtain⟨new,n1,_⟩:=g2.new
   have hvs:v∈σ'.st:=by rw[n1];simp
   exact⟨σ'.close v,by simp only[vis,g1,oS,if_neg hlt,if_pos hvs],Y0W h g2 h0 g3 hlt⟩
omit hnx
def visAll(nx:Nat->List Nat)(k:Nat):List Nat->TS->Option TS
 | [],σ=>some σ
 |v::vs,σ=>if σ.num v=0 then(vis nx k σ v).bind fun σ'=>visAll nx k vs σ' else visAll nx k vs σ
def TS.start:TS:=⟨fun _=>0,fun _=>0,fun _=> -1,[],0,0⟩
theorem Y0X:TInv nx n TS.start []:=by
 refine⟨fun x hx=>absurd rfl hx,List.Pairwise.nil,fun x=>⟨fun h=>(by cases h),fun h=>absurd rfl h.1⟩,fun x=>nR _,fun g hg=>(by cases hg),fun x hx=>(by cases hx),fun g hg=>(by cases hg),fun x hx=>absurd rfl hx,fun x hx=> ?_,fun x y hx=> ?_⟩
 ·have:(0:Int)<= -1:=hx;omega
 ·have:(0:Int)<= -1:=hx;omega
include hnx
theorem w0I{k:Nat}(hk:n<=k): ∀(vs:List Nat) (σ:TS),TInv nx n σ []->(∀v∈vs,v<n)-> ∃σ',visAll nx k vs σ=some σ'/\TInv nx n σ' []/\(∀x,σ.num x≠0->σ'.num x≠0)/\ ∀v∈vs,σ'.num v≠0
 | [],σ,h,_=>⟨σ,rfl,h,fun _ h=>h,fun _ h=>(by cases h)⟩
 |v::vs,σ,h,hv=>by
  have hv': ∀u∈vs,u<n:=fun u hu=>hv u (by simp[hu])
  by_cases h0:σ.num v=0
  ·have hr:rest n σ<=k:=by
    refine nT ?_ hk
    unfold rest
    have:=List.length_filter_le (fun w=>decide (σ.num w=0)) (List.range n)
    rwa [List.length_range]at this
   obtain⟨σ1,p1,p2⟩:=J1n hnx k σ v [] h (hv v (by simp)) h0 (fun g hg=>(by cases hg)) hr
   obtain⟨σ',q1,q2,q3,q4⟩:=w0I hk vs σ1 p2.inv hv'
   have hm: ∀x,σ.num x≠0->σ1.num x≠0:=fun x hx=>by rw[p2.num x hx];exact hx
   refine⟨σ',by simp only[visAll,h0,iT,p1,oS,q1],q2,fun x hx=>q3 x (hm x hx),fun u hu=> ?_⟩
   rcases mC.1 hu with e |e
   ·subst e;exact q3 u (by have:=p2.numv;omega)
   ·exact q4 u e
  ·obtain⟨σ',q1,q2,q3,q4⟩:=w0I hk vs σ h hv'
   refine⟨σ',by simp only[visAll,if_neg h0,q1],q2,q3,fun u hu=> ?_⟩
   rcases mC.1 hu with e |e
   ·subst e;exact q3 u h0
   ·exact q4 u e
theorem z1E{k:Nat}(hk:n<=k): ∃σ,visAll nx k (List.range n) TS.start=some σ/\(∀x,x<n->0<=σ.of x/\σ.of x<σ.f)/\ ∀x y,x<n->y<n->(σ.of x=σ.of y↔Rch nx x y/\Rch nx y x):=by
 obtain⟨σ,h1,h2,_,h4⟩:=w0I hnx hk (List.range n) TS.start Y0X (fun v hv=>List.mem_range.1 hv)
 have hst: ∀x,x∉σ.st:=fun x hx=>by
  obtain⟨g,g1,_⟩:=h2.back x hx
  cases g1
 have hof: ∀x,x<n->0<=σ.of x:=fun x hx=>by
  have hn:=h4 x (List.mem_range.2 hx)
  rcases Int.lt_or_le (σ.of x) 0 with g |g
  ·exact absurd ((h2.mem x).2 ⟨hn,g⟩) (hst x)
  ·exact g
 exact⟨σ,h1,fun x hx=>⟨hof x hx,(h2.cls x (hof x hx)).2.1⟩,fun x y hx hy=>h2.scc x y (hof x hx) (hof y hy)⟩
end
end Go.Proofs.Ytglkhoamnmiolaa.R
