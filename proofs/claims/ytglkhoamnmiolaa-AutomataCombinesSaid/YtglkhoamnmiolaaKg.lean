/- - -/
import Derived.Test.YtglkhoamnmiolaaKf
import Derived.Test.YtglkhoamnmiolaaKb
import Derived.Test.YtglkhoamnmiolaaWx
set_option linter.all false
namespace Go.Proofs.Ytglkhoamnmiolaa.R
open Go Go.Proofs.Ytglkhoamnmiolaa.Vm
abbrev MH(lim:Nat):Mach:=⟨awExt 8,lim,true⟩
abbrev CallsY(lim:Nat)(y:YCallT):Prop:=CallsOK lim (callOf (run (awExt 8) (progOf 8 prog true) lim)) md y
theorem W0G{lim:Nat}{M:YM}(hM:CallsY lim M.ext){f:FuncId}{us:List U}{r:Rz}{u:U}(h:ycall M f us=some r)(hu:r.toU=some u){H:Heap}{F:Nat->Prop}{vs:List V}(hl:lim<=H.next)(hF: ∀i,F i->i<H.next)(hv:UVs H F us vs):
  ∃v H' F',mcall (MH lim) f vs H=some (v,H')/\FrX none H F H' F'/\UV H' F' u v:=
 Rz.callU (md:=md) (k0B (vext:=awExt 8) (yext:=M.ext) (prog:=progOf 8 prog true) (lim:=lim) Q0x hM) h hu hl hF hv
section
variable{H H':Heap}{F F':Nat->Prop}
theorem w0h(h:FrX none H F H' F'):Grow H H':=⟨h.next,fun i hi=>h.keep i hi (fun e=>by cases e)⟩
theorem FrB.fr{b:Nat}{H0:Heap}(h:FrB b H0 H)(g:Grow H H'):FrB b H0 H':=⟨nT h.next g.next,fun i hi=>(g.keep i (nL hi h.next)).trans (h.old i hi)⟩
theorem k1o{u1 u2:U}{v1 v2:V}(h1:UV H F u1 v1)(h2:UV H F u2 v2):UVs H F [u1,u2] [v1,v2]:=⟨v1,[v2],rfl,h1,v2,[],rfl,h2,rfl⟩
theorem w0i{n:Int}:UV H F (uI n) (.c (.int .i64 n)):=⟨rfl,rfl,rfl⟩
theorem k1p{b1 b2:Bool}{w0 w1:List Int}{c0 c1:C}(h0:UC H F (uIs b1 w0) [c0])(h1:UC H F (uIs b2 w1) [c1]):UV H F (.st [uIs b1 w0,uIs b2 w1]) (.agg [c0,c1]):=
 ⟨_,rfl,c0,[c1],rfl,rfl,h0,c1,[],rfl,rfl,h1,rfl⟩
theorem k1q(e:E4):UV H F (uE e) (.agg [.int .i64 e.f, .int .i64 e.t, .int .i64 e.n, .int .i64 e.v]):=
 ⟨_,rfl,_,_,rfl,rfl,⟨rfl,rfl⟩,_,_,rfl,rfl,⟨rfl,rfl⟩,_,_,rfl,rfl,⟨rfl,rfl⟩,_,_,rfl,rfl,⟨rfl,rfl⟩,rfl⟩
theorem z0S{cs r:List C}{o n j:Nat}{x:C}(h:(cs.drop o).take n=r)(hj:r[j]? =some x):cs[o+j]? =some x:=by
 subst h
 rw[List.getElem?_take]at hj
 split at hj
 ·rw[List.getElem?_drop]at hj;exact hj
 ·cases hj
theorem rdE{b:Bool}{es:List E4}{c:C}(h:UC H F (uEs b es) [c]){k:Nat}{e:E4}(hk:es[k]? =some e): ∃i o,C.elem 4 c (k:Int)=some (i,o)/\F i/\H.ld i o=some (.int .i64 e.f)/\H.ld i (o+1)=some (.int .i64 e.t)/\
  H.ld i (o+1+1)=some (.int .i64 e.n)/\H.ld i (o+1+1+1)=some (.int .i64 e.v):=by
 obtain⟨i,o,z,cs,e1,e2,e3,e4,e5⟩:=h.elem (k:=k) (u:=uE e) (by simp[hk])
 rw[show(uE e).size=4 from rfl]at e1 e5
 obtain⟨c0,_,k0,_,q0,c1,_,rfl,_,q1,c2,_,rfl,_,q2,c3,_,rfl,_,q3,rfl⟩:=e5
 have t0:c0= .int .i64 e.f:=by have:=q0.2;simpa using this
 have t1:c1= .int .i64 e.t:=by have:=q1.2;simpa using this
 have t2:c2= .int .i64 e.n:=by have:=q2.2;simpa using this
 have t3:c3= .int .i64 e.v:=by have:=q3.2;simpa using this
 subst t0 t1 t2 t3
 exact⟨i,o,e1,e2,ldX e3 (z0S (j:=0) k0 rfl),ldX e3 (z0S (j:=1) k0 rfl),ldX e3 (z0S (j:=2) k0 rfl),ldX e3 (z0S (j:=3) k0 rfl)⟩
theorem Q1i{b:Bool}{l:List E4}{c:C}(h:UC H F (uEs b l) [c]):C.len c=some l.length:=by have:=UC.lenC h;simpa using this
end
def toP(w0:List Int)(n p:Nat):Nat:=if p+1=n then w0.length else p+1
def psE(n t p:Nat)(e:E4):Int×Int:=(e.t*n+t,e.f*n+p)
def psP(es:List E4)(w0 w1:List Int)(n p:Nat):List (Int×Int):=(es.filter fun e=>rdI e (letr w0 w1 p)).map (psE n (toP w0 n p) p)
def psTo(es:List E4)(w0 w1:List Int)(n k:Nat):List (Int×Int):=(List.range k).flatMap (psP es w0 w1 n)
theorem k1r{e:E4}{es:List E4}{w0 w1:List Int}{n p:Nat}(h:rdI e (letr w0 w1 p)=true):psP (e::es) w0 w1 n p=psE n (toP w0 n p) p e::psP es w0 w1 n p:=by simp[psP,h]
theorem w1Q{e:E4}{es:List E4}{w0 w1:List Int}{n p:Nat}(h:rdI e (letr w0 w1 p)=false):psP (e::es) w0 w1 n p=psP es w0 w1 n p:=by simp[psP,h]
theorem k1s(es:List E4)(w0 w1:List Int)(n p:Nat):(psP es w0 w1 n p).length<=es.length:=by
 rw[psP,List.length_map];exact List.length_filter_le _ _
theorem J0t(es:List E4)(w0 w1:List Int)(n k:Nat):psTo es w0 w1 n (k+1)=psTo es w0 w1 n k++psP es w0 w1 n k:=by
 simp[psTo,List.range_succ]
theorem Q0F(es:List E4)(w0 w1:List Int)(n:Nat): ∀k,(psTo es w0 w1 n k).length<=k*es.length
 | 0=>by simp[psTo]
 |k+1=>by
  rw[J0t,List.length_append,Nat.succ_mul]
  have:=Q0F es w0 w1 n k
  have:=k1s es w0 w1 n k
  omega
theorem k0s{a s n p:Nat}(hs:s<a)(hp:p<n):s*n+p<a*n:=by
 have:(s+1)*n<=a*n:=Nat.mul_le_mul_right _ hs
 rw[Nat.succ_mul]at this
 omega
section
variable{lim:Nat}{M:YM}(hM:CallsY lim M.ext){H0:Heap}{F:Nat->Prop}{b a:Nat}{b1 b2 b3 b4 b5:Bool}{l:List Int}{es:List E4}{xs:List (Bool×List Int)}{w0 w1:List Int}{c1 c2 c3 d0 d1:C}
structure AW (lim:Nat) (H0:Heap) (F:Nat->Prop) (b a:Nat) (l:List Int) (es:List E4) (xs:List (Bool×List Int)) (w0 w1:List Int) (b1 b2 b3 b4 b5:Bool) (c1 c2 c3 d0 d1:C):Prop where
 hl:lim<=b
 hF: ∀i,F i->i<b
 ha:a<=300
 he:es.length<=6000
 hx:xs.length<=8
 ok:es.all (eOK (a:Int))=true
 wp:0<w1.length
 wl:(w0++w1).all ltr=true
 wn:w0.length+w1.length<=60
 u1:UC H0 F (uIs b1 l) [c1]
 u2:UC H0 F (uEs b2 es) [c2]
 u3:UC H0 F (uLs b3 xs) [c3]
 v0:UC H0 F (uIs b4 w0) [d0]
 v1:UC H0 F (uIs b5 w1) [d1]
 hls:l.length<=1000000/\ ∀s∈l,0<=s/\s<(a:Int)
 hxs: ∀x∈xs,x.2.length<=1000000/\ ∀s∈x.2,0<=s/\s<(a:Int)
variable(A:AW lim H0 F b a l es xs w0 w1 b1 b2 b3 b4 b5 c1 c2 c3 d0 d1)
theorem J0u{a:Nat}{es:List E4}(h:es.all (eOK (a:Int))=true){k:Nat}{e:E4}(hk:es[k]? =some e):(∃f:Nat,e.f=f/\f<a)/\(∃t:Nat,e.t=t/\t<a)/\btw e.n 0 4095=true/\btw e.v 0 4095=true:=by
 have h1:=List.all_eq_true.1 h e (List.mem_of_getElem? hk)
 simp only[eOK,bA]at h1
 obtain⟨⟨⟨g1,g2⟩,g3⟩,g4⟩:=h1
 simp only[btw,dE]at g1 g2
 refine⟨?_, ?_,g3,g4⟩
 ·obtain⟨f,hf⟩:=iZ g1.1;exact⟨f,hf,by omega⟩
 ·obtain⟨f,hf⟩:=iZ g2.1;exact⟨f,hf,by omega⟩
include hM A
theorem Y0j{n p:Nat}(hn:n=w0.length+w1.length)(hp:p<n):
  ∀(d i:Nat) (H:Heap) (ps:List (Int×Int)),i+d=es.length->ps.length+d<=1000000->FrB b H0 H->TabO H b (tabD (a*n) ps)->
  ∃H',f16_3 (MH lim) (a:Int) c1 c2 c3 d0 d1 (n:Int) (.slice b 0 (a*n)) (p:Int) (toP w0 n p:Int) (i:Int) H=f16_1 (MH lim) (a:Int) c1 c2 c3 d0 d1 (n:Int) (.slice b 0 (a*n)) ((p+1:Nat):Int) H'/\
   FrB b H0 H'/\TabO H' b (tabD (a*n) (ps++psP (es.drop i) w0 w1 n p)):=by
 intro d
 induction d with
 |zero=>
  intro i H ps hi hps f t
  refine⟨H, ?_,f,by rw[dL (by omega)];simpa[psP]using t⟩
  rw[Q0n]
  have:=A.wn
  simp only[Q1i (k0X A.u2 f A.hF),oS,show¬((i:Int)<((es.length:Nat):Int)) by omega,dF,bF,iF,q0b (show p<=1000000000 by omega)]
 |succ d ih=>
  intro i H ps hi hps f t
  have hlt:i<es.length:=by omega
  have hg:es[i]? =some es[i]:=q0a hlt
  have ha:=A.ha;have hwn:=A.wn;have he:=A.he
  obtain⟨⟨s,hs1,hs2⟩,⟨t',ht1,ht2⟩,hb1,hb2⟩:=J0u A.ok hg
  obtain⟨i1,o1,g1,g2,g3,g4,g5,g6⟩:=rdE (k0X A.u2 f A.hF) hg
  have hF: ∀i,F i->i<H.next:=fun i hi=>nL (A.hF i hi) f.next
  obtain⟨v,H1,F1,k1,k2,k3⟩:=W0G hM (f:=42) (us:=[.st [uIs b4 w0,uIs b5 w1],uI (p:Int)]) (vs:=[.agg [d0,d1], .c (.int .i64 (p:Int))]) (z1v (M:=M) A.wp (by omega) (by omega)) rfl (nT A.hl f.next) hF (k1o (k1p (k0X A.v0 f A.hF) (k0X A.v1 f A.hF)) w0i)
  have:=k3.int
  subst this
  have f1:=f.fr (w0h k2)
  have t1:=t.grow (w0h k2)
  have hlet:btw (letr w0 w1 p) 0 4095=true:=by
   have hm:letr w0 w1 p∈w0++w1:=by
    rw[k0Y (by omega)]
    unfold at0
    rw[lG,List.getElem?_eq_getElem (by simp;omega)]
    exact lM _
   exact List.all_eq_true.1 A.wl _ hm
  obtain⟨v2,H2,F2,m1,m2,m3⟩:=W0G hM (f:=43) (us:=[uE es[i],uI (letr w0 w1 p)]) (vs:=[.agg [.int .i64 es[i].f, .int .i64 es[i].t, .int .i64 es[i].n, .int .i64 es[i].v], .c (.int .i64 (letr w0 w1 p))]) (w1N (M:=M) hb1 hb2 hlet) rfl (nT A.hl f1.next) k2.lt (k1o (k1q _) w0i)
  have:=m3.bool
  subst this
  have f2:=f1.fr (w0h m2)
  have t2:=t1.grow (w0h m2)
  have q1:f42 (MH lim) d0 d1 (p:Int) H=some (.c (.int .i64 (letr w0 w1 p)),H1):=k1
  have q2:f43 (MH lim) es[i].f es[i].t es[i].n es[i].v (letr w0 w1 p) H1=some (.c (.bool (rdI es[i] (letr w0 w1 p))),H2):=m1
  have hbn:s*n<=300*60/\t'*n<=300*60:=⟨Nat.mul_le_mul (by omega) (by omega),Nat.mul_le_mul (by omega) (by omega)⟩
  have htp:toP w0 n p<=60:=by unfold toP;split<;>omega
  have e1:IntKind.wrap .i64 (es[i].f*(n:Int))=((s*n:Nat):Int):=by rw[hs1,<-Int.natCast_mul,q0h (by omega) (by omega)]
  have e2:IntKind.wrap .i64 (((s*n:Nat):Int)+(p:Int))=((s*n+p:Nat):Int):=by rw[q0h (by omega) (by omega)];omega
  have e3:IntKind.wrap .i64 (es[i].t*(n:Int))=((t'*n:Nat):Int):=by rw[ht1,<-Int.natCast_mul,q0h (by omega) (by omega)]
  have e4:IntKind.wrap .i64 (((t'*n:Nat):Int)+(toP w0 n p:Int))=((t'*n+toP w0 n p:Nat):Int):=by rw[q0h (by omega) (by omega)];omega
  have hnode:=k0s hs2 hp
  have hps1:psE n (toP w0 n p) p es[i]=(((t'*n+toP w0 n p:Nat):Int),((s*n+p:Nat):Int)):=by unfold psE;rw[hs1,ht1];simp
  rw[List.drop_eq_getElem_cons hlt]
  by_cases hr:rdI es[i] (letr w0 w1 p)=true
  ·have hrl:=z0d ps (s*n+p)
   obtain⟨x,z1,z2,c',H3,z3,z4,H4,z5,z6,z7,z8⟩:=t2.push (lim:=lim) A.hl (j0O hnode) ((t'*n+toP w0 n p:Nat):Int) (by omega)
   rw[<-J0p hnode]at z6
   obtain⟨H',y1,y2,y3⟩:=ih (i+1) H4 (ps++[(((t'*n+toP w0 n p:Nat):Int),((s*n+p:Nat):Int))]) (by omega) (by simp;omega) ⟨nT f2.next z8,fun j hj=>by rw[z7 j hj];exact f2.old j hj⟩ z6
   refine⟨H', ?_,y2, ?_⟩
   ·rw[Q0n]
    simp only[Q1i (k0X A.u2 f A.hF),oS,show((i:Int)<((es.length:Nat):Int)) by omega,dY,iT,g1,g3,g4,g5,g6,asI_int,q1,asC_c,q2,asB_bool,hr,e1,e2,e3,e4,k0n hnode,z1,z2,z3,z5,K0s,q0b (show i<=1000000000 by omega),y1]
   ·rw[k1r hr,hps1]
    rw[List.append_assoc]at y3
    exact y3
  ·simp only[Bool.not_eq_true]at hr
   obtain⟨H',y1,y2,y3⟩:=ih (i+1) H2 ps (by omega) (by omega) f2 t2
   refine⟨H', ?_,y2, ?_⟩
   ·rw[Q0n]
    simp only[Q1i (k0X A.u2 f A.hF),oS,show((i:Int)<((es.length:Nat):Int)) by omega,dY,iT,g1,g3,g4,g5,g6,asI_int,q1,asC_c,q2,asB_bool,hr,bF,iF,K0s,q0b (show i<=1000000000 by omega),y1]
   ·rw[w1Q hr];exact y3
theorem Y0k{n:Nat}(hn:n=w0.length+w1.length):
  ∀(d p:Nat) (H:Heap),p+d=n->FrB b H0 H->TabO H b (tabD (a*n) (psTo es w0 w1 n p))->
  ∃H',f16_1 (MH lim) (a:Int) c1 c2 c3 d0 d1 (n:Int) (.slice b 0 (a*n)) (p:Int) H=f16_5 (MH lim) (a:Int) c1 c2 c3 (n:Int) (.slice b 0 (a*n)) .nilSlice 0 H'/\
   FrB b H0 H'/\TabO H' b (tabD (a*n) (psTo es w0 w1 n n)):=by
 have ha:=A.ha;have hwn:=A.wn;have he:=A.he;have hw1:=A.wp
 intro d
 induction d with
 |zero=>
  intro p H hp f t
  have:p=n:=by omega
  subst this
  refine⟨H, ?_,f,t⟩
  rw[K0o]
  simp only[Int.lt_irrefl,dF,bF,iF]
 |succ d ih=>
  intro p H hp f t
  have hlen:=Q0F es w0 w1 n p
  have hb:p*es.length<=60*6000:=Nat.mul_le_mul (by omega) he
  obtain⟨H1,g1,g2,g3⟩:=Y0j hM A hn (show p<n by omega) es.length 0 H (psTo es w0 w1 n p) (by omega) (by omega) f t
  rw[List.drop_zero,<-J0t]at g3
  obtain⟨H',k1,k2,k3⟩:=ih (p+1) H1 (by omega) g2 g3
  refine⟨H', ?_,k2,k3⟩
  rw[K0o]
  rw[show((0:Nat):Int)=0 from rfl]at g1
  simp only[show((p:Int)<(n:Int)) by omega,dY,iT,q0b (show p<=1000000000 by omega),q1P (k0X A.v0 f A.hF),oS,j1k]
  by_cases e:p+1=n
  ·rw[if_pos (by simp;omega)]
   rw[show toP w0 n p=w0.length by simp[toP,e]]at g1
   rw[g1,k1]
  ·rw[if_neg (by simp;omega)]
   rw[show toP w0 n p=p+1 by simp[toP,e]]at g1
   rw[g1,k1]
end
end Go.Proofs.Ytglkhoamnmiolaa.R
