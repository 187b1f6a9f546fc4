/- - -/
import Derived.Test.YtglkhoamnmiolaaTj
import Derived.Test.YtglkhoamnmiolaaKi
import Derived.Test.YtglkhoamnmiolaaKj
set_option linter.all false
namespace Go.Proofs.Ytglkhoamnmiolaa.R
open Go Go.Proofs.Ytglkhoamnmiolaa.Vm
theorem z0Y{H:Heap}{F:Nat->Prop}: ∀(l:List Bool) (cs:List C),EsR H F (uBs l) 1 cs->cs=l.map C.bool
 | [],cs,h=>h
 |b::l,cs,h=>by
  obtain⟨a,r,rfl,h1,h2,h3⟩:=h
  obtain⟨_,rfl⟩:=h2
  rw[z0Y l r h3];rfl
theorem Z1m{H:Heap}{F:Nat->Prop}{j p:Nat}{l:List Bool}(hF:F j)(h:BM H j p l):UC H F (setU l) [.slice j p l.length]:=by
 obtain⟨cs,h1,h2,h3⟩:=h
 refine .inr ⟨rfl,j,p,cs,1,by simp,hF,h1,by simp;omega, ?_⟩
 rw[uBs_length,Nat.mul_one,h3];exact J0O l
theorem w1w{lim:Nat}{M:YM}(hM:CallsY lim M.ext){f:FuncId}{us:List U}{l:List Bool}(hmd:md f=[.sls])(h:ycall M f us=some (.sl ⟨true,1,uBs l⟩)){H:Heap}{F:Nat->Prop}{vs:List V}(hl:lim<=H.next)(hF: ∀i,F i->i<H.next)(hv:UVs H F us vs):
  ∃j p H' F',mcall (MH lim) f vs H=some (.c (.slice j p l.length),H')/\FrX none H F H' F'/\H.next<=j/\j<H'.next/\ ¬F' j/\BM H' j p l:=by
 obtain⟨v,H',F',k1,k2,k3,k4,k5,k6,k7⟩:=(z0J (vext:=awExt 8) (yext:=M.ext) (prog:=progOf 8 prog true) (lim:=lim) w0m hM) f us _ h H F vs hl hF hv
 rw[hmd]at k7
 obtain⟨⟨e,_⟩ |⟨_,j,p,cs,rfl,g1,g2,g3,g4,g5,g6⟩,_⟩:=k7
 ·cases e
 ·simp only[uBs_length,Nat.mul_one]at k1 g5 g6
  exact⟨j,p,H',F',k1,⟨k2,fun i hi _=>k3 i hi,k4,k5,k6⟩,g1,g2,g3,cs,g4,g5,z0Y l _ g6⟩
def psU(es:List E4):List (Int×Int):=(es.filter cr).map fun e=>(e.t,e.f)
def rowsU(a:Nat)(es:List E4):List (Bool×List Int):=tabU (tabD a (psU es))
def setsU(a:Nat)(xs:List (Bool×List Int)):List (List Bool):=xs.map fun x=>markL a x.2
theorem Y0u{e:E4}{es:List E4}(h:cr e=true):psU (e::es)=(e.t,e.f)::psU es:=by simp[psU,h]
theorem k1S{e:E4}{es:List E4}(h:cr e=false):psU (e::es)=psU es:=by simp[psU,h]
theorem w1x(es:List E4):(psU es).length<=es.length:=by rw[psU,List.length_map];exact List.length_filter_le _ _
open Classical in
noncomputable def usefulL(a:Nat)(l:List Int)(es:List E4)(xs:List (Bool×List Int)):List Bool:=
 (List.range a).map fun v=>decide (Inf (nxT (rowsU a es)) xs.length (fun k=>inB ((setsU a xs).getD k [])) v/\ ∃s:Nat,(s:Int)∈l/\Rch (nxL (rowsU a es)) s v)
theorem Q0m(a:Nat)(l:List Int)(es:List E4)(xs:List (Bool×List Int)):(usefulL a l es xs).length=a:=by simp[usefulL]
theorem Q0n{a:Nat}{l:List Int}{es:List E4}{xs:List (Bool×List Int)}{v:Nat}:inB (usefulL a l es xs) v↔v<a/\Inf (nxT (rowsU a es)) xs.length (fun k=>inB ((setsU a xs).getD k [])) v/\ ∃s:Nat,(s:Int)∈l/\Rch (nxL (rowsU a es)) s v:=by
 show(usefulL a l es xs)[v]? =some true↔_
 unfold usefulL
 by_cases h:v<a
 ·rw[List.getElem?_map,List.getElem?_range h]
  simp only[Option.map_some,oI,dE,h,true_and]
 ·rw[List.getElem?_eq_none (by simp;omega)]
  simp[h]
structure AU (lim:Nat) (H0:Heap) (F:Nat->Prop) (b a:Nat) (l:List Int) (es:List E4) (xs:List (Bool×List Int)) (b1 b2 b3:Bool) (c1 c2 c3:C):Prop where
 hl:lim<=b
 hF: ∀i,F i->i<b
 ha:a<=300
 he:es.length<=6000
 hx:xs.length<=8
 ok:es.all (eOK (a:Int))=true
 u1:UC H0 F (uIs b1 l) [c1]
 u2:UC H0 F (uEs b2 es) [c2]
 u3:UC H0 F (uLs b3 xs) [c3]
 hls:l.length<=1000000/\ ∀s∈l,0<=s/\s<(a:Int)
 hxs: ∀x∈xs,x.2.length<=1000000/\ ∀s∈x.2,0<=s/\s<(a:Int)
section
variable{lim:Nat}{M:YM}(hM:CallsY lim M.ext){H0:Heap}{F:Nat->Prop}{b a:Nat}{b1 b2 b3:Bool}{l:List Int}{es:List E4}{xs:List (Bool×List Int)}{c1 c2 c3:C}
variable(A:AU lim H0 F b a l es xs b1 b2 b3 c1 c2 c3)
include A
theorem AU.psm{p:Int×Int}(hp:p∈psU es):(0<=p.1/\p.1<(a:Int))/\0<=p.2/\p.2<(a:Int):=by
 obtain⟨e,he,rfl⟩:=List.mem_map.1 hp
 obtain⟨k,hk⟩:=List.mem_iff_getElem?.1 (List.mem_filter.1 he).1
 obtain⟨⟨f,hf1,hf2⟩,⟨t,ht1,ht2⟩,_⟩:=J0Z A.ok hk
 simp only[hf1,ht1]
 omega
theorem AU.tab:Table a (rowsU a es):=J0T (fun p hp=>(A.psm hp).1) (nT (w1x es) (by have:=A.he;omega))
include hM
theorem Y0v:
  ∀(d i:Nat) (H:Heap) (ps:List (Int×Int)),i+d=es.length->ps.length+d<=1000000->FrB b H0 H->TabO H b (tabD a ps)->
  ∃H',f40_1 (MH lim) (a:Int) c1 c2 c3 (.slice b 0 a) (i:Int) H=f40_3 (MH lim) (a:Int) c1 c2 c3 (.slice b 0 a) .nilSlice 0 H'/\
   FrB b H0 H'/\TabO H' b (tabD a (ps++psU (es.drop i))):=by
 intro d
 induction d with
 |zero=>
  intro i H ps hi hps f t
  refine⟨H, ?_,f,by rw[dL (by omega)];simpa[psU]using t⟩
  rw[Q0R]
  simp only[J1o (J0F A.u2 f A.hF),oS,show¬((i:Int)<((es.length:Nat):Int)) by omega,dF,bF,iF]
 |succ d ih=>
  intro i H ps hi hps f t
  have hlt:i<es.length:=by omega
  have hg:es[i]? =some es[i]:=q0a hlt
  have ha:=A.ha;have he:=A.he
  obtain⟨⟨s,hs1,hs2⟩,⟨t',ht1,ht2⟩,hb1,hb2⟩:=J0Z A.ok hg
  obtain⟨i1,o1,g1,g2,g3,g4,g5,g6⟩:=rdE (J0F A.u2 f A.hF) hg
  have hF: ∀i,F i->i<H.next:=fun i hi=>nL (A.hF i hi) f.next
  obtain⟨v2,H2,F2,m1,m2,m3⟩:=X0y hM (f:=78) (us:=[uE es[i]]) (vs:=[.agg [.int .i64 es[i].f, .int .i64 es[i].t, .int .i64 es[i].n, .int .i64 es[i].v]]) (J1x (M:=M) hb1 hb2) rfl (nT A.hl f.next) hF ⟨_,[],rfl,q1b _,rfl⟩
  have:=m3.bool
  subst this
  have f2:=f.fr (J0Y m2)
  have t2:=t.grow (J0Y m2)
  have q2:f78 (MH lim) es[i].f es[i].t es[i].n es[i].v H=some (.c (.bool (cr es[i])),H2):=m1
  have eI:IntKind.wrap .i64 ((i:Int)+1)=((i+1:Nat):Int):=q0b (by omega)
  rw[List.drop_eq_getElem_cons hlt]
  by_cases hr:cr es[i]=true
  ·have hrl:=j0n ps s
   obtain⟨x,z1,z2,c',H3,z3,z4,H4,z5,z6,z7,z8⟩:=t2.push (lim:=lim) A.hl (j0E hs2) es[i].t (by omega)
   rw[<-k0h hs2]at z6
   obtain⟨H',y1,y2,y3⟩:=ih (i+1) H4 (ps++[(es[i].t,(s:Int))]) (by omega) (by simp;omega) ⟨nT f2.next z8,fun j hj=>by rw[z7 j hj];exact f2.old j hj⟩ z6
   refine⟨H', ?_,y2, ?_⟩
   ·rw[Q0R]
    simp only[J1o (J0F A.u2 f A.hF),oS,show((i:Int)<((es.length:Nat):Int)) by omega,dY,iT,g1,g3,g4,g5,g6,asI_int,q2,asC_c,asB_bool,hr]
    simp only[hs1,q0g hs2,z1,z2,z3,z5,oS,W0c,eI,y1]
   ·rw[Y0u hr,hs1]
    rw[List.append_assoc]at y3
    exact y3
  ·simp only[Bool.not_eq_true]at hr
   obtain⟨H',y1,y2,y3⟩:=ih (i+1) H2 ps (by omega) (by omega) f2 t2
   refine⟨H', ?_,y2, ?_⟩
   ·rw[Q0R]
    simp only[J1o (J0F A.u2 f A.hF),oS,show((i:Int)<((es.length:Nat):Int)) by omega,dY,iT,g1,g3,g4,g5,g6,asI_int,q2,asC_c,asB_bool,hr,bF,iF,W0c,eI,y1]
   ·rw[k1S hr];exact y3
theorem Y0w{Hm:Heap}(fm:FrB b H0 Hm){tab:C}:
  ∀(d k:Nat) (H:Heap) (G:Nat->Prop) (c:C),k+d=xs.length->Grow Hm H->(∀i,F i->G i)->(∀i,G i->i<H.next)->(∀i,G i->F i\/Hm.next<=i)->OutR Hm.next H G 1 ((setsU a (xs.take k)).map setU) c->
  ∃(H':Heap) (G':Nat->Prop) (c':C),f40_3 (MH lim) (a:Int) c1 c2 c3 tab c (k:Int) H=f40_3 (MH lim) (a:Int) c1 c2 c3 tab c' (xs.length:Int) H'/\
   Grow Hm H'/\(∀i,F i->G' i)/\(∀i,G' i->i<H'.next)/\(∀i,G' i->F i\/Hm.next<=i)/\OutR Hm.next H' G' 1 ((setsU a xs).map setU) c':=by
 have ha:=A.ha;have hx8:=A.hx
 intro d
 induction d with
 |zero=>
  intro k H G c hk g h1 h2 h3 h4
  have:k=xs.length:=by omega
  subst this
  rw[List.take_length]at h4
  exact⟨H,G,c,rfl,g,h1,h2,h3,h4⟩
 |succ d ih=>
  intro k H G c hk g h1 h2 h3 h4
  have hlt:k<xs.length:=by omega
  have hg:xs[k]? =some xs[k]:=q0a hlt
  obtain⟨hx1,hx2⟩:=A.hxs _ (lM hlt)
  have fa:FrB b H0 H:=fm.fr g
  obtain⟨i1,o1,cc,g1,g2,g3,g4⟩:=rdL (J0F A.u3 fa A.hF) hg
  have g4':UC H G (uIs xs[k].1 xs[k].2) [cc]:=g4.mono ⟨h1,fun i hi=>rfl⟩
  obtain⟨v,H1,G1,m1,m2,m3⟩:=X0y hM (f:=79) (us:=[uI (a:Int),uIs xs[k].1 xs[k].2]) (vs:=[.c (.int .i64 (a:Int)), .c cc]) (J1y (M:=M) (b:=xs[k].1) (by omega) hx2 hx1) rfl (nT A.hl fa.next) h2 (Q1t w1a ⟨rfl,g4'⟩)
  obtain⟨vc,rfl,m4⟩:=m3.one rfl
  have q1:f79 (MH lim) (a:Int) cc H=some (.c vc,H1):=m1
  have f2:FrX none H G (H1.alloc (.cells 1 [vc])) G1:=m2.trans (FrX.alloc _ m2.lt)
  have o2:=h4.fr f2 (fun i e=>by cases e) h2
  have u2:UC (H1.alloc (.cells 1 [vc])) G1 (setU (markL a xs[k].2)) [vc]:=m4.mono ⟨fun _ h=>h,fun i hi=>q0f (m2.lt i hi)⟩
  obtain⟨c',H2,y1,y2,y3,y4,y5⟩:=o2.app (lim:=lim) (nT A.hl fm.next) f2.lt (nT g.next f2.next) u2 rfl (by simp[setsU];omega)
  have e:(setsU a (xs.take (k+1))).map setU=(setsU a (xs.take k)).map setU++[setU (markL a xs[k].2)]:=by
   rw[List.take_add_one,hg]
   simp only[setsU,Option.toList_some,List.map_append,List.map_cons,List.map_nil]
  obtain⟨H',G',c'',q,q'⟩:=ih (k+1) H2 G1 c' (by omega) ⟨nT g.next (nT f2.next y3),fun i hi=>by
    rw[y5 i hi,f2.keep i (nL hi g.next) (fun e=>by cases e)];exact g.keep i hi⟩ (fun i hi=>f2.sub i (h1 i hi)) (fun i hi=>nL (f2.lt i hi) y3)
   (fun i hi=>(f2.new i hi).elim (h3 i) fun e=> .inr (nT g.next e)) (by rw[e];exact y2)
  refine⟨H',G',c'', ?_,q'⟩
  rw[W0d]
  simp only[w1M (J0F A.u3 fa A.hF),oS,show((k:Int)<((xs.length:Nat):Int)) by omega,dY,iT,g1,g3,q1,asC_c,z0N,y1,q0b (show k<=1000000000 by omega),q]
omit hM A in
theorem Y0x{j p j2 p2:Nat}{P R:List Bool}{Hs:Heap}(hP:P.length=a)(hR:R.length=a)(hj:lim<=j)(hne:j≠j2)(ha:a<=300):
  ∀(d i:Nat) (H:Heap) (cur:List Bool),i+d=a->cur.length=a->BM H j p cur->BM H j2 p2 R->H.next=Hs.next->(∀z,z≠j->H.get z=Hs.get z)->(∀v,inB cur v↔inB P v/\(v<i->inB R v))->
  ∃H' out,f40_4 (MH lim) (a:Int) c1 c2 c3 (.slice j p a) (.slice j2 p2 a) (i:Int) H=some (.c (.slice j p a),H')/\out.length=a/\BM H' j p out/\H'.next=Hs.next/\(∀z,z≠j->H'.get z=Hs.get z)/\ ∀v,inB out v↔inB P v/\inB R v:=by
 intro d
 induction d with
 |zero=>
  intro i H cur hi hc h1 h2 h3 h4 h5
  refine⟨H,cur, ?_,hc,h1,h3,h4,fun v=>(h5 v).trans ⟨fun g=>⟨g.1,g.2 ?_⟩,fun g=>⟨g.1,fun _=>g.2⟩⟩⟩
  ·rw[W0e]
   simp only[show¬((i:Int)<(a:Int)) by omega,dF,bF,iF]
  ·have:=(gE.1 g.1).1;omega
 |succ d ih=>
  intro i H cur hi hc h1 h2 h3 h4 h5
  have hia:i<a:=by omega
  have hil:i<cur.length:=by omega
  obtain⟨a1,a2⟩:=j0d hil
  obtain⟨r1,r2⟩:=j0d (show i<R.length by omega)
  obtain⟨H1,s1,s2,s3,s4,_⟩:=h1.st hj (cur[i]&&R[i]) hil
  have eI:IntKind.wrap .i64 ((i:Int)+1)=((i+1:Nat):Int):=q0b (by omega)
  obtain⟨H',out,z1,z2⟩:=ih (i+1) H1 (cur.set i (cur[i]&&R[i])) (by omega) (by rw[List.length_set];exact hc) s2 (h2.keep (s4 j2 (Ne.symm hne))) (by rw[s3];exact h3) (fun z hz=>by rw[s4 z hz];exact h4 z hz) (fun v=>by
   rw[z0w hil,bA,<-a2,<-r2,h5]
   constructor
   ·rintro(⟨rfl,⟨g1,g2⟩,g3⟩ |⟨g0,g1⟩)
    ·exact⟨g1,fun _=>g3⟩
    ·have g2:=(h5 v).1 g1
     exact⟨g2.1,fun g3=>g2.2 (by omega)⟩
   ·rintro⟨g1,g2⟩
    by_cases e:v=i
    ·subst e;exact .inl ⟨rfl,⟨g1,fun g=>absurd g (Nat.lt_irrefl _)⟩,g2 (by omega)⟩
    ·exact .inr ⟨e,(h5 v).2 ⟨g1,fun g=>g2 (by omega)⟩⟩)
  refine⟨H',out, ?_,z2⟩
  rw[W0e]
  simp only[show((i:Int)<(a:Int)) by omega,dY,iT,j0y hia,oS,h1.ld a1,asB_bool]
  cases hv:cur[i]with
  |true=>
   rw[hv,Bool.true_and]at s1
   simp only[iT,h2.ld r1,oS,asB_bool,s1,eI,z1]
  |false=>
   rw[hv,Bool.false_and]at s1
   simp only[bF,iF,oS,s1,eI,z1]
end
section
variable{lim:Nat}{M:YM}(hM:CallsY lim M.ext)(hrev:HasRev M){H:Heap}{F:Nat->Prop}{a:Nat}{b1 b2 b3:Bool}{l:List Int}{es:List E4}{xs:List (Bool×List Int)}{c1 c2 c3:C}
variable(A:AU lim H F H.next a l es xs b1 b2 b3 c1 c2 c3)
include hM hrev A
theorem w1y: ∃(vc:C) (H':Heap) (F':Nat->Prop),f40 (MH lim) (a:Int) c1 c2 c3 H=some (.c vc,H')/\FrX none H F H' F'/\UC H' F' (setU (usefulL a l es xs)) [vc]:=by
 have ha:=A.ha;have hx8:=A.hx;have he:=A.he
 have t0:=TabO.new H a
 rw[<-w0n]at t0
 have fr0:FrB H.next H (H.alloc (.cells 1 (List.replicate a [C.nilSlice]).flatten)):=⟨Nat.le_succ _,fun i hi=>q0f hi⟩
 obtain⟨Hm,g1,g2,g3⟩:=Y0v hM A es.length 0 _ [] (by omega) (by simp;omega) fr0 t0
 rw[List.drop_zero,List.nil_append]at g3
 have hFm: ∀i,F i->i<Hm.next:=fun i hi=>nL (A.hF i hi) g2.next
 obtain⟨H2,G,c',k1,k2,k3,k4,k5,k6⟩:=Y0w hM A g2 (tab:= .slice H.next 0 a) xs.length 0 Hm F .nilSlice (by omega) (.refl _) (fun _ h=>h) hFm (fun _ h=> .inl h) .nil
 let F2:Nat->Prop:=fun i=>F i\/(H.next<=i/\i<H2.next)
 have hnx:H.next<=H2.next:=nT g2.next k2.next
 have hF2: ∀i,F2 i->i<H2.next:=fun i hi=>hi.elim (fun h=>nL (A.hF i h) hnx) fun h=>h.2
 have hGF: ∀i,G i->F2 i:=fun i hi=>(k5 i hi).imp id fun h=>⟨nT g2.next h,k4 i hi⟩
 obtain⟨G2,p1,p2,bb,_,p3⟩:=k6.fin k4
 have us:UC H2 F2 (.sl bb ((setsU a xs).map setU)) [c']:=p3.mono ⟨fun i hi=>(p2 i hi).elim (hGF i) fun h=> .inr ⟨nT g2.next h.1,h.2⟩,fun _ _=>rfl⟩
 have ut:UC H2 F2 (uLs true (rowsU a es)) [.slice H.next 0 a]:=by
  have:=(g3.grow k2).uc (F:=F2) fun i hi hi2=> .inr ⟨hi,hi2⟩
  rw[j0e]at this
  exact this
 have u1:UC H2 F2 (uIs b1 l) [c1]:=(J0F A.u1 (g2.fr k2) A.hF).mono ⟨fun _ h=> .inl h,fun _ _=>rfl⟩
 have hT:Table a (rowsU a es):=A.tab
 obtain⟨P,q1,q2,q3⟩:=w1K (M:=M) (by omega) hT hrev (b:=true) (b2:=bb) (ls:=setsU a xs) (fun l hl=>by obtain⟨x,_,rfl⟩:=List.mem_map.1 hl;simp) (by simp[setsU];omega)
 obtain⟨j,p,H3,F3,m1,m2,m3,m4,m5,m6⟩:=w1w hM (f:=44) rfl (us:=[uLs true (rowsU a es), .sl bb ((setsU a xs).map setU)]) (vs:=[.c (.slice H.next 0 a), .c c']) q1 (nT A.hl hnx) hF2 (Q1t ⟨rfl,ut⟩ ⟨rfl,us⟩)
 obtain⟨R,r1,r2,r3⟩:=J1B (M:=M) hT (by omega) (bb:=true) (b:=b1) A.hls.2 A.hls.1
 obtain⟨j2,pp2,H4,F4,n1,n2,n3,n4,n5,n6⟩:=w1w hM (f:=80) rfl (us:=[uLs true (rowsU a es),uIs b1 l]) (vs:=[.c (.slice H.next 0 a), .c c1]) r1 (nT A.hl (nT hnx m2.next)) m2.lt
  (Q1t ⟨rfl,ut.mono ⟨m2.sub,fun i hi=>m2.keep i (hF2 i hi) (fun e=>by cases e)⟩⟩ ⟨rfl,u1.mono ⟨m2.sub,fun i hi=>m2.keep i (hF2 i hi) (fun e=>by cases e)⟩⟩)
 rw[q2]at m1
 rw[r2]at n1
 have hjj:j≠j2:=by omega
 have hjn:H.next<=j:=nT hnx m3
 obtain⟨H',out,z1,z2,z3,z4,z5,z6⟩:=Y0x (lim:=lim) (c1:=c1) (c2:=c2) (c3:=c3) (Hs:=H4) q2 r2 (nT A.hl hjn) hjj ha a 0 H4 P (by omega) q2 (m6.keep (n2.keep j m4 (fun e=>by cases e))) n6 rfl (fun _ _=>rfl) (fun v=>⟨fun h=>⟨h,fun h=>absurd h (Nat.not_lt_zero _)⟩,(·.1)⟩)
 have eout:out=usefulL a l es xs:=by
  refine k0i (by rw[z2,Q0m]) fun v=> ?_
  rw[z6,Q0n,q3,r3]
  have el:(setsU a xs).length=xs.length:=by simp[setsU]
  rw[el]
  exact⟨fun h=>⟨Inf.lt hT.1 h.1,h.1,h.2⟩,fun h=>h.2⟩
 have hkeep: ∀i,i<H.next->H'.get i=H.get i:=fun i hi=>by
  have e1:=(g2.fr k2).next
  have e2:=m2.next
  rw[z5 i (by omega),n2.keep i (by omega) (fun e=>by cases e),m2.keep i (by omega) (fun e=>by cases e),(g2.fr k2).old i hi]
 have hnx':H4.next=H'.next:=z4.symm
 have e3:=n2.next
 refine⟨.slice j p a,H',fun i=>F i\/i=j, ?_,⟨by have:=m2.next;omega,fun i hi _=>hkeep i hi,fun i h=> .inl h,fun i h=>h.imp id fun e=>by omega,fun i h=> ?_⟩, ?_⟩
 ·rw[J1a]
  rw[if_pos ⟨by omega,by omega⟩]
  simp only[iN]
  rw[show((0:Nat):Int)=0 from rfl]at g1 k1 z1
  rw[g1,k1,W0d]
  have q44:f44 (MH lim) (.slice H.next 0 a) c' H2=some (.c (.slice j p a),H3):=m1
  have q80:f80 (MH lim) (.slice H.next 0 a) c1 H3=some (.c (.slice j2 pp2 a),H4):=n1
  simp only[w1M (J0F A.u3 (g2.fr k2) A.hF),oS,Int.lt_irrefl,dF,bF,iF,q44,q80,asC_c,z1]
 ·have e2:=m2.next
  rcases h with h |h
  ·have:=A.hF i h;omega
  ·omega
 ·have:=Z1m (F:=fun i=>F i\/i=j) (.inr rfl) z3
  rw[z2]at this
  rw[<-eout]
  exact this
end
end Go.Proofs.Ytglkhoamnmiolaa.R
