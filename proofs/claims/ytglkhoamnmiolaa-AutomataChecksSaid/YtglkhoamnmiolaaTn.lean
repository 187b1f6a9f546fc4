/- - -/
import Derived.Test.YtglkhoamnmiolaaTm
import Derived.Test.YtglkhoamnmiolaaKl
set_option linter.all false
namespace Go.Proofs.Ytglkhoamnmiolaa.R
open Go Go.Proofs.Ytglkhoamnmiolaa.Vm
def kpE(num:Nat->Int)(e:E4):Bool:= !decide (num e.f.toNat= -1)&& !decide (num e.t.toNat= -1)
def newE(num:Nat->Int)(e:E4):E4:=⟨num e.f.toNat,num e.t.toNat,e.n,e.v⟩
def keptE(num:Nat->Int)(es:List E4):List E4:=(es.filter (kpE num)).map (newE num)
theorem Q0o{num:Nat->Int}{es:List E4}{i:Nat}{e:E4}(h:es[i]? =some e):keptE num (es.take (i+1))=keptE num (es.take i)++(if kpE num e=true then [newE num e]else []):=by
 rw[List.take_add_one,h]
 unfold keptE
 rw[Option.toList_some,List.filter_append,List.map_append]
 congr 1
 by_cases e:kpE num e=true
 ·rw[if_pos e];simp only[List.filter_cons,e,iT,List.filter_nil,List.map_cons,List.map_nil]
 ·rw[if_neg e];simp only[List.filter_cons,e,iF,List.filter_nil,List.map_nil];rfl
theorem w0E(num:Nat->Int)(es:List E4):(keptE num es).length<=es.length:=by rw[keptE,List.length_map];exact List.length_filter_le _ _
theorem w1A{H:Heap}{F:Nat->Prop}(e:E4):UC H F (uE e) [.int .i64 e.f, .int .i64 e.t, .int .i64 e.n, .int .i64 e.v]:=
 ⟨_,_,rfl,rfl,⟨rfl,rfl⟩,_,_,rfl,rfl,⟨rfl,rfl⟩,_,_,rfl,rfl,⟨rfl,rfl⟩,_,_,rfl,rfl,⟨rfl,rfl⟩,rfl⟩
theorem ucg{H H':Heap}{F:Nat->Prop}{u:U}{xs:List C}(h:UC H F u xs)(g:Grow H H')(hF: ∀i,F i->i<H.next):UC H' F u xs:=h.mono ⟨fun _ h=>h,fun i hi=>g.keep i (hF i hi)⟩
section
variable{lim:Nat}{Hs:Heap}{F:Nat->Prop}{a jn pn:Nat}{num:Nat->Int}{b2:Bool}{es:List E4}{a1 a2 a3 y1 y2 y3 old kept o1 o3:C}{a0 y0 o0:Int}
theorem Y0z(hl:lim<=Hs.next)(hF: ∀i,F i->i<Hs.next)(hjn:jn<Hs.next)(hpn:pn<Hs.next)(hp:Hs.get pn=some (.cells 1 [.slice jn 0 a]))(hj:Hs.get jn=some (.cells 1 (fc a num)))(hu:UC Hs F (uEs b2 es) [a2])(hok:es.all (eOK (a:Int))=true)(hes:es.length<=6000):
  ∀(d i:Nat) (H:Heap) (c:C),i+d=es.length->Grow Hs H->OutR Hs.next H F 4 ((keptE num (es.take i)).map uE) c->(keptE num (es.take i)=[]->c= .nilSlice)->
  ∃H' c',f64_6 (MH lim) a0 a1 a2 a3 y0 y1 y2 y3 (.ptr pn 0) old kept o0 o1 c o3 a2 (es.length:Int) (i:Int) H=f64_6 (MH lim) a0 a1 a2 a3 y0 y1 y2 y3 (.ptr pn 0) old kept o0 o1 c' o3 a2 (es.length:Int) (es.length:Int) H'/\
   Grow Hs H'/\OutR Hs.next H' F 4 ((keptE num es).map uE) c'/\(keptE num es=[]->c'= .nilSlice):=by
 intro d
 induction d with
 |zero=>
  intro i H c hi g h1 h2
  obtain rfl:i=es.length:=by omega
  rw[List.take_length]at h1 h2
  exact⟨H,c,rfl,g,h1,h2⟩
 |succ d ih=>
  intro i H c hi g h1 h2
  have hlt:i<es.length:=by omega
  have hg:es[i]? =some es[i]:=q0a hlt
  obtain⟨⟨s,hs1,hs2⟩,⟨t,ht1,ht2⟩,_,_⟩:=J0Z hok hg
  obtain⟨i1,q1,g1,g2,g3,g4,g5,g6⟩:=rdE (ucg hu g hF) hg
  have ap:V.asP (.c (.ptr pn 0))=some (pn,0):=rfl
  have lp:Heap.ld H pn 0=some (.slice jn 0 a):=by rw[q0x (by rw[g.keep pn hpn];exact hp)];rfl
  have ls:Heap.ld H jn s=some (.int .i64 (num s)):=by rw[q0x (by rw[g.keep jn hjn];exact hj)];exact w0Q hs2
  have lt:Heap.ld H jn t=some (.int .i64 (num t)):=by rw[q0x (by rw[g.keep jn hjn];exact hj)];exact w0Q ht2
  have eI:IntKind.wrap .i64 ((i:Int)+1)=((i+1:Nat):Int):=q0b (by omega)
  have hk:=Q0o (num:=num) hg
  have hkp:kpE num es[i]=(!decide (num s= -1)&& !decide (num t= -1)):=by unfold kpE;rw[hs1,ht1];rfl
  have hkl:=w0E num (es.take i)
  rw[List.length_take]at hkl
  have eq1:(if(!decide (num s= -1))=true then some (!decide (num t= -1),H)else some (!decide (num s= -1),H))=some (kpE num es[i],H):=by
   rw[hkp]
   cases(!decide (num s= -1))<;>rfl
  rw[W0k]
  simp only[show((i:Int)<(es.length:Int)) by omega,dY,iT,g1,g3,g4,g5,g6,oS,asI_int]
  simp only[hs1,ht1,ap,lp,ls,lt,q0g hs2,q0g ht2,oS,asI_int,eq1]
  by_cases e:kpE num es[i]=true
  ·rw[if_pos e]at hk
   have hFH: ∀i,F i->i<H.next:=fun i hi=>nL (hF i hi) g.next
   have f2:FrX none H F (H.alloc (.cells 4 [.int .i64 (num s), .int .i64 (num t), .int .i64 es[i].n, .int .i64 es[i].v])) F:=FrX.alloc _ hFH
   have o2:=h1.fr f2 (fun i e=>by cases e) hFH
   have hne:newE num es[i]=⟨num s,num t,es[i].n,es[i].v⟩:=by unfold newE;rw[hs1,ht1];rfl
   obtain⟨c',H2,w1,w2,w3,w4,w5⟩:=o2.app (lim:=lim) hl f2.lt (nT g.next f2.next) (u:=uE (newE num es[i])) (xs:=[.int .i64 (num s), .int .i64 (num t), .int .i64 es[i].n, .int .i64 es[i].v]) (by rw[hne];exact w1A _) rfl (by rw[List.length_map];omega)
   obtain⟨H',c'',z⟩:=ih (i+1) H2 c' (by omega) ⟨nT g.next (nT f2.next w3),fun i hi=>by
    rw[w5 i hi,f2.keep i (nL hi g.next) (fun e=>by cases e)];exact g.keep i hi⟩ (by rw[hk,List.map_append];exact w2) (by rw[hk];intro h;simp at h)
   refine⟨H',c'', ?_,z.2⟩
   simp only[e,iT,ap,lp,ls,lt,q0g hs2,q0g ht2,oS,asI_int,J0X,w1,W0l,eI,z.1]
  ·rw[if_neg e,List.append_nil]at hk
   obtain⟨H',c'',z⟩:=ih (i+1) H c (by omega) g (by rw[hk];exact h1) (by rw[hk];exact h2)
   refine⟨H',c'', ?_,z.2⟩
   simp only[e,iF,bF,W0l,eI,z.1]
end
def keptX(num:Nat->Int)(xs:List (Bool×List Int)):List (Bool×List Int):=xs.map fun x=>(!(keptL num x.2).isEmpty,keptL num x.2)
theorem w1B(a:Nat)(num:Nat->Int):fc a num=((numsL a num).map rowI).flatten:=by
 unfold fc numsL
 induction List.range a with
 |nil=>rfl
 |cons x l ih=>simp only[List.map_cons,List.flatten_cons,ih];rfl
theorem Y0A{H:Heap}{F:Nat->Prop}{j a:Nat}{num:Nat->Int}(hF:F j)(h:H.get j=some (.cells 1 (fc a num))):UC H F (.sl true ((numsL a num).map uI)) [.slice j 0 a]:=by
 have hl:(numsL a num).length=a:=by simp[numsL]
 refine .inr ⟨rfl,j,0,_,1,by simp[hl],hF,h,by simp[hl,z0L], ?_⟩
 rw[List.drop_zero,List.take_of_length_le (by simp[hl,z0L]),w1B]
 exact J0a _
section
variable{lim:Nat}{M:YM}(hM:CallsY lim M.ext){Hs:Heap}{F:Nat->Prop}{a jn pn:Nat}{num:Nat->Int}{b3:Bool}{xs:List (Bool×List Int)}{a3 y1 y2 y3 old o1 o2:C}{y0 o0:Int}
include hM
theorem k1U{H:Heap}{G:Nat->Prop}(hp:H.get pn=some (.cells 1 [.slice jn 0 a]))(hj:H.get jn=some (.cells 1 (fc a num)))(hpG:G pn)(hjG:G jn):UC H G (.ref (.sl true ((numsL a num).map uI)) 0) [.ptr pn 0]:=
 ⟨pn,0,1,_,1,rfl,hpG,hp,by simp,Y0A hjG hj⟩
theorem Y0B(hl:lim<=Hs.next)(hF: ∀i,F i->i<Hs.next)(hjn:jn<Hs.next)(hpn:pn<Hs.next)(hjF:F jn)(hpF:F pn)(hp:Hs.get pn=some (.cells 1 [.slice jn 0 a]))(hj:Hs.get jn=some (.cells 1 (fc a num)))(hu:UC Hs F (uLs b3 xs) [a3])(hxs: ∀x∈xs,x.2.length<=1000000/\ ∀s∈x.2,0<=s/\s<(a:Int))(hx:xs.length<=8):
  ∀(d k:Nat) (H:Heap) (G:Nat->Prop) (c:C),k+d=xs.length->Grow Hs H->(∀i,F i->G i)->(∀i,G i->i<H.next)->(∀i,G i->F i\/Hs.next<=i)->OutR Hs.next H G 1 ((keptX num (xs.take k)).map fun x=>uIs x.1 x.2) c->(keptX num (xs.take k)=[]->c= .nilSlice)->
  ∃(H':Heap) (G':Nat->Prop) (c':C),f64_8 (MH lim) y0 y1 y2 y3 old (.func 96 [] [.ptr pn 0]) o0 o1 o2 c a3 (xs.length:Int) (k:Int) H=some (.tuple [.agg [.int .i64 o0,o1,o2,c'], .c old],H')/\
   Grow Hs H'/\(∀i,F i->G' i)/\(∀i,G' i->i<H'.next)/\(∀i,G' i->F i\/Hs.next<=i)/\OutR Hs.next H' G' 1 ((keptX num xs).map fun x=>uIs x.1 x.2) c'/\(keptX num xs=[]->c'= .nilSlice):=by
 intro d
 induction d with
 |zero=>
  intro k H G c hk g h1 h2 h3 h4 h5
  have:k=xs.length:=by omega
  subst this
  rw[List.take_length]at h4 h5
  refine⟨H,G,c, ?_,g,h1,h2,h3,h4,h5⟩
  rw[W0m]
  simp only[Int.lt_irrefl,dF,bF,iF]
 |succ d ih=>
  intro k H G c hk g h1 h2 h3 h4 h5
  have hlt:k<xs.length:=by omega
  have hg:xs[k]? =some xs[k]:=q0a hlt
  obtain⟨hx1,hx2⟩:=hxs _ (lM hlt)
  obtain⟨i1,q1,cc,g1,g2,g3,g4⟩:=rdL (ucg hu g hF) hg
  have g4':UC H G (uIs xs[k].1 xs[k].2) [cc]:=g4.mono ⟨h1,fun i hi=>rfl⟩
  have hr:UC H G (.ref (.sl true ((numsL a num).map uI)) 0) [.ptr pn 0]:=k1U hM (by rw[g.keep pn hpn];exact hp) (by rw[g.keep jn hjn];exact hj) (h1 pn hpF) (h1 jn hjF)
  obtain⟨v,H1,G1,m1,m2,m3⟩:=X0y hM (f:=96) (us:=[uIs xs[k].1 xs[k].2, .ref (.sl true ((numsL a num).map uI)) 0]) (vs:=[.c cc, .c (.ptr pn 0)]) (k1K (M:=M) (num:=num) (bn:=true) (b:=xs[k].1) hx2 hx1) rfl (nT hl g.next) h2 (Q1t ⟨rfl,g4'⟩ ⟨rfl,hr⟩)
  rw[J0H]at m3
  obtain⟨vc,rfl,m4⟩:=m3.one rfl
  have f2:FrX none H G (H1.alloc (.cells 1 [vc])) G1:=m2.trans (FrX.alloc _ m2.lt)
  have o2':=h4.fr f2 (fun i e=>by cases e) h2
  have u2:UC (H1.alloc (.cells 1 [vc])) G1 (uIs (!(keptL num xs[k].2).isEmpty) (keptL num xs[k].2)) [vc]:=m4.mono ⟨fun _ h=>h,fun i hi=>q0f (m2.lt i hi)⟩
  obtain⟨c',H2,w1,w2,w3,w4,w5⟩:=o2'.app (lim:=lim) hl f2.lt (nT g.next f2.next) u2 rfl (by simp[keptX];omega)
  have e:keptX num (xs.take (k+1))=keptX num (xs.take k)++[(!(keptL num xs[k].2).isEmpty,keptL num xs[k].2)]:=by
   rw[List.take_add_one,hg]
   simp only[keptX,Option.toList_some,List.map_append,List.map_cons,List.map_nil]
  obtain⟨H',G',c'',q,q'⟩:=ih (k+1) H2 G1 c' (by omega) ⟨nT g.next (nT f2.next w3),fun i hi=>by
    rw[w5 i hi,f2.keep i (nL hi g.next) (fun e=>by cases e)];exact g.keep i hi⟩ (fun i hi=>f2.sub i (h1 i hi)) (fun i hi=>nL (f2.lt i hi) w3)
   (fun i hi=>(f2.new i hi).elim (h3 i) fun e=> .inr (nT g.next e)) (by rw[e,List.map_append];exact w2) (by rw[e];intro h;simp at h)
  refine⟨H',G',c'', ?_,q'⟩
  have eI:IntKind.wrap .i64 ((k:Int)+1)=((k+1:Nat):Int):=q0b (by omega)
  rw[W0m]
  simp only[show((k:Int)<(xs.length:Int)) by omega,dY,iT,g1,g3,oS,C.asF,List.map_nil,List.map_cons,List.nil_append,List.cons_append,m1,asC_c,z0N,w1,eI,q]
end
end Go.Proofs.Ytglkhoamnmiolaa.R
