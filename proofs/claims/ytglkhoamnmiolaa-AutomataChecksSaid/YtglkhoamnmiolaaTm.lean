/- - -/
import Derived.Test.YtglkhoamnmiolaaTl
set_option linter.all false
namespace Go.Proofs.Ytglkhoamnmiolaa.R
open Go Go.Proofs.Ytglkhoamnmiolaa.Vm
section
variable{M:Mach}{H0:Heap}{F:Nat->Prop}{b n:Nat}{bb:Bool}{rows:List (Bool×List Int)}{c a1 a2 a3 y1 y2 y3 en:C}{a0 y0:Int}
theorem Y0O(hl:M.lim<=b)(hF: ∀i,F i->i<b)(hn:n<=1000000)(ht:Table n rows){i:Nat}{r:Bool×List Int}(hi:rows[i]? =some r){c2:C}(h2:UC H0 F (uIs r.1 r.2) [c2]):
  ∀(e k:Nat) (ps:List (Int×Int)) (H:Heap),k+e=r.2.length->ps.length+e<=1000000->FrB b H0 H->TabO H b (tabD n ps)->
  ∃H',f64_2 M a0 a1 a2 a3 y0 y1 y2 y3 c en (.slice b 0 n) (i:Int) c (n:Int) (i:Int) c2 (r.2.length:Int) (k:Int) H=f64_1 M a0 a1 a2 a3 y0 y1 y2 y3 c en (.slice b 0 n) c (n:Int) ((i+1:Nat):Int) H'/\FrB b H0 H'/\TabO H' b (tabD n (ps++(r.2.drop k).map fun y=>((i:Int),y))):=by
 have hil:i<rows.length:=(gE.1 hi).1
 have hin:i<n:=by have:=ht.1;omega
 have hr2:=w0A ht hi
 intro e
 induction e with
 |zero=>
  intro k ps H hk hp f t
  refine⟨H, ?_,f,by rw[dL (by omega)];simpa using t⟩
  rw[W0g]
  simp only[show¬((k:Int)<(r.2.length:Int)) by omega,dF,bF,iF,q0b (show i<=1000000000 by omega)]
 |succ e ih=>
  intro k ps H hk hp f t
  have hlt:k<r.2.length:=by omega
  obtain⟨y0,y1⟩:=ht.2.1 r (List.mem_of_getElem? hi) r.2[k] (lM hlt)
  obtain⟨y,hy⟩:=iZ y0
  have hget:r.2[k]? =some (y:Int):=by rw[q0a hlt,hy]
  rw[hy]at y1
  have hyn:y<n:=by omega
  obtain⟨i2,o2,k1,k2,k3⟩:=rdN (J0F h2 f hF) hget
  have hrl:=j0n ps y
  obtain⟨x,q1,q2,c',H1,q3,q4,H2,q5,q6,q7,q8⟩:=t.push hl (j0E hyn) (i:Int) (by omega)
  rw[<-k0h hyn]at q6
  have f2:FrB b H0 H2:=⟨nT f.next q8,fun j hj=>by rw[q7 j hj];exact f.old j hj⟩
  obtain⟨H',z1,z2,z3⟩:=ih (k+1) (ps++[((i:Int),(y:Int))]) H2 (by omega) (by simp;omega) f2 q6
  refine⟨H', ?_,z2, ?_⟩
  ·rw[W0g]
   simp only[show((k:Int)<(r.2.length:Int)) by omega,dY,iT,k1,k3,oS,asI_int,q0g hyn,q1,q2,q3,q5,q0b (show k<=1000000000 by omega),z1]
  ·rw[List.drop_eq_getElem_cons hlt,List.map_cons,hy]
   rw[List.append_assoc]at z3
   exact z3
theorem Y0P(hl:M.lim<=b)(hF: ∀i,F i->i<b)(hn:n<=1000000)(ht:Table n rows)(hc:UC H0 F (uLs bb rows) [c]):
  ∀(e i:Nat) (H:Heap) (ps:List (Int×Int)),i+e=rows.length->ps.length+(prs i (rows.drop i)).length<=1000000->FrB b H0 H->TabO H b (tabD n ps)->
  ∃H',f64_1 M a0 a1 a2 a3 y0 y1 y2 y3 c en (.slice b 0 n) c (n:Int) (i:Int) H=f64_1 M a0 a1 a2 a3 y0 y1 y2 y3 c en (.slice b 0 n) c (n:Int) (n:Int) H'/\FrB b H0 H'/\TabO H' b (tabD n (ps++prs i (rows.drop i))):=by
 intro e
 induction e with
 |zero=>
  intro i H ps hi hp f t
  have hin:i=n:=by have:=ht.1;omega
  subst hin
  exact⟨H,rfl,f,by rw[dL (by omega)];simpa[prs]using t⟩
 |succ e ih=>
  intro i H ps hi hp f t
  have hil:i<rows.length:=by omega
  have hin:i<n:=by have:=ht.1;omega
  have hg:rows[i]? =some rows[i]:=q0a hil
  rw[List.drop_eq_getElem_cons hil,prs,List.length_append,List.length_map]at hp
  obtain⟨i1,o1,c2,g1,g2,g3,g4⟩:=rdL hc hg
  have g3':Heap.ld H i1 o1=some c2:=by
   unfold Heap.ld at g3⊢
   rw[f.old i1 (hF i1 g2)];exact g3
  obtain⟨H1,z1,z2,z3⟩:=Y0O (c:=c) (a0:=a0) (a1:=a1) (a2:=a2) (a3:=a3) (y0:=y0) (y1:=y1) (y2:=y2) (y3:=y3) (en:=en) hl hF hn ht hg g4 rows[i].2.length 0 ps H (by omega) (by omega) f t
  rw[List.drop_zero]at z3
  obtain⟨H',w1,w2,w3⟩:=ih (i+1) H1 _ (by omega) (by simp only[List.length_append,List.length_map];omega) z2 z3
  refine⟨H', ?_,w2, ?_⟩
  ·rw[show((0:Nat):Int)=0 from rfl]at z1
   rw[W0f]
   simp only[show((i:Int)<(n:Int)) by omega,dY,iT,g1,g3',oS,Q1s g4,z1,w1]
  ·rw[List.drop_eq_getElem_cons hil,prs]
   rw[List.append_assoc]at w3
   exact w3
theorem Y0Q{Hs:Heap}{l:List Int}{b1:Bool}{j:Nat}{g:C}(hj:M.lim<=j)(hFj: ¬F j)(h1:UC Hs F (uIs b1 l) [a1])(hl: ∀s∈l,0<=s/\s<(n:Int))(hll:l.length<=1000000):
  ∀(d i:Nat) (H:Heap) (out:List Bool),i+d=l.length->out.length=n->BM H j 0 out->H.next=Hs.next->(∀z,z≠j->H.get z=Hs.get z)->(∀x,inB out x↔((x:Nat):Int)∈l.take i)->
  ∃H',f64_3 M a0 a1 a2 a3 y0 y1 y2 y3 g en (.slice j 0 n) a1 (l.length:Int) (i:Int) H=f64_3 M a0 a1 a2 a3 y0 y1 y2 y3 g en (.slice j 0 n) a1 (l.length:Int) (l.length:Int) H'/\BM H' j 0 (markL n l)/\H'.next=Hs.next/\(∀z,z≠j->H'.get z=Hs.get z):=by
 intro d
 induction d with
 |zero=>
  intro i H out hi ho hb h2 h3 hx
  obtain rfl:i=l.length:=by omega
  have e:out=markL n l:=k0i (by simp[ho]) fun x=>by
   rw[hx,inB_mark,List.take_length]
   exact⟨fun h=>⟨by have:=hl _ h;omega,h⟩,(·.2)⟩
  rw[<-e]
  exact⟨H,rfl,hb,h2,h3⟩
 |succ d ih=>
  intro i H out hi ho hb h2 h3 hx
  have hlt:i<l.length:=by omega
  have hg:l[i]? =some l[i]:=q0a hlt
  obtain⟨g1,g2⟩:=hl _ (lM hlt)
  obtain⟨s,hs⟩:=iZ g1
  rw[hs]at hg
  have hsn:s<n:=by omega
  have hc:s<out.length:=by omega
  have hu:UC H F (uIs b1 l) [a1]:=h1.mono ⟨fun _ h=>h,fun z hz=>h3 z fun e=>hFj (e▸hz)⟩
  obtain⟨i2,o2,k1,k2,k3⟩:=rdN hu hg
  obtain⟨H1,s1,s2,s3,s4,_⟩:=hb.st hj true hc
  obtain⟨H',z1,z2⟩:=ih (i+1) H1 _ (by omega) (by rw[List.length_set];exact ho) s2 (by rw[s3];exact h2) (fun z hz=>by rw[s4 z hz];exact h3 z hz) fun x=>by
   rw[q0v hc,hx,List.take_add_one,hg]
   simp only[Option.toList_some,mA,List.mem_singleton]
   constructor
   ·rintro(h |h)
    ·exact .inr (by rw[h])
    ·exact .inl h
   ·rintro(h |h)
    ·exact .inr h
    ·exact .inl (by omega)
  refine⟨H', ?_,z2⟩
  rw[W0h]
  simp only[show((i:Int)<(l.length:Int)) by omega,dY,iT,k1,k3,oS,asI_int,j0y hsn,s1,q0b (show i<=1000000000 by omega),z1]
end
def oldL(P:List Bool)(i:Nat):List Int:=((List.range i).filter fun v=>P.getD v false).map fun(v:Nat)=>(v:Int)
def numF(P:List Bool)(i:Nat)(v:Nat):Int:=if v<i/\P.getD v false=true then((oldL P v).length:Int)else -1
theorem J0U{P:List Bool}{i:Nat}:oldL P (i+1)=oldL P i++(if P.getD i false=true then [(i:Int)]else []):=by
 unfold oldL
 rw[List.range_succ,List.filter_append,List.map_append]
 congr 1
 by_cases h:P.getD i false=true
 ·rw[if_pos h];simp only[List.filter_cons,h,iT,List.filter_nil,List.map_cons,List.map_nil]
 ·rw[if_neg h];simp only[List.filter_cons,h,iF,List.filter_nil,List.map_nil];rfl
theorem Q0Y(P:List Bool)(i:Nat):(oldL P i).length<=i:=by
 rw[oldL,List.length_map]
 have:=List.length_filter_le (fun v=>P.getD v false) (List.range i)
 rwa [List.length_range]at this
section
variable{M:Mach}{n jn pn je pe jb pb:Nat}{E B P:List Bool}{a1 a2 a3 y1 y2 y3:C}{a0 y0:Int}{Hs:Heap}
theorem Y0R(hn:n<=1000000)(hE:E.length=n)(hB:B.length=n)(hP: ∀v,v<n->(P.getD v false=true↔inB E v/\inB B v))
  (hle:je<Hs.next/\jb<Hs.next/\jn<Hs.next/\pn<Hs.next) (hne:je≠jn/\jb≠jn/\pn≠jn) (hl:M.lim<=jn) (hEb:BM Hs je pe E) (hBb:BM Hs jb pb B) (hpn:Hs.get pn=some (.cells 1 [.slice jn 0 n])):
  ∀(d i:Nat) (H:Heap) (c:C),i+d=n->H.get jn=some (.cells 1 (fc n (numF P i)))->OInts H Hs.next c (oldL P i)->(oldL P i=[]->c= .nilSlice)->(∀z,z<Hs.next->z≠jn->H.get z=Hs.get z)->
  ∃H' c',f64_4 M a0 a1 a2 a3 y0 y1 y2 y3 (.slice je pe n) (.slice jb pb n) (.ptr pn 0) c (n:Int) (i:Int) H=f64_4 M a0 a1 a2 a3 y0 y1 y2 y3 (.slice je pe n) (.slice jb pb n) (.ptr pn 0) c' (n:Int) (n:Int) H'/\
   H'.get jn=some (.cells 1 (fc n (numF P n)))/\OInts H' Hs.next c' (oldL P n)/\(oldL P n=[]->c'= .nilSlice)/\(∀z,z<Hs.next->z≠jn->H'.get z=Hs.get z):=by
 intro d
 induction d with
 |zero=>
  intro i H c hi h1 h2 h0 h3
  obtain rfl:i=n:=by omega
  exact⟨H,c,rfl,h1,h2,h0,h3⟩
 |succ d ih=>
  intro i H c hi h1 h2 h0 h3
  have hin:i<n:=by omega
  have eI:IntKind.wrap .i64 ((i:Int)+1)=((i+1:Nat):Int):=q0b (by omega)
  obtain⟨e1,e2⟩:=j0d (show i<E.length by omega)
  obtain⟨d1,d2⟩:=j0d (show i<B.length by omega)
  have hE':BM H je pe E:=hEb.keep (h3 je hle.1 hne.1)
  have hB':BM H jb pb B:=hBb.keep (h3 jb hle.2.1 hne.2.1)
  have hold:=J0U (P:=P) (i:=i)
  have hPi:=hP i hin
  have skip: ¬(P.getD i false=true)-> ∃H' c',f64_5 M a0 a1 a2 a3 y0 y1 y2 y3 (.slice je pe n) (.slice jb pb n) (.ptr pn 0) c (n:Int) (i:Int) H=f64_4 M a0 a1 a2 a3 y0 y1 y2 y3 (.slice je pe n) (.slice jb pb n) (.ptr pn 0) c' (n:Int) (n:Int) H'/\
   H'.get jn=some (.cells 1 (fc n (numF P n)))/\OInts H' Hs.next c' (oldL P n)/\(oldL P n=[]->c'= .nilSlice)/\(∀z,z<Hs.next->z≠jn->H'.get z=Hs.get z):=fun hp=>by
   rw[if_neg hp,List.append_nil]at hold
   have hnum:numF P i=numF P (i+1):=by
    funext v
    unfold numF
    by_cases hv:v=i
    ·subst hv;rw[if_neg (by omega),if_neg (fun h=>hp h.2)]
    ·have:(v<i/\P.getD v false=true)↔(v<i+1/\P.getD v false=true):=by constructor<;>intro h<;>exact⟨by omega,h.2⟩
     simp only[this]
   rw[hnum]at h1
   rw[W0j,eI]
   exact ih (i+1) H c (by omega) h1 (by rw[hold];exact h2) (by rw[hold];exact h0) h3
  rw[W0i]
  simp only[show((i:Int)<(n:Int)) by omega,dY,iT,j0y hin,oS,hB'.ld d1,asB_bool]
  cases hb:B[i]with
  |false=>
   simp only[bF,iF,oS]
   exact skip fun hp=>by have:=d2.1 (hPi.1 hp).2;rw[hb]at this;cases this
  |true=>
   simp only[iT,hE'.ld e1,oS,asB_bool]
   cases he:E[i]with
   |false=>
    simp only[bF,iF]
    exact skip fun hp=>by have:=e2.1 (hPi.1 hp).1;rw[he]at this;cases this
   |true=>
    have hp:P.getD i false=true:=hPi.2 ⟨e2.2 he,d2.2 hb⟩
    rw[if_pos hp]at hold
    have hz:=h1
    have hlen:C.len c=some (oldL P i).length:=by have:=h2.ints.len;simpa using this
    have hol:=Q0Y P i
    have lp:Heap.ld H pn 0=some (.slice jn 0 n):=by rw[q0x (by rw[h3 pn hle.2.2.2 hne.2.2];exact hpn)];rfl
    have s12:=j0f (lim:=M.lim) (x:= .int .i64 (((oldL P i).length:Nat):Int)) hz hl (o:=i) (by rw[z0L];exact hin)
    rw[Z0r hin]at s12
    generalize hH12:H.put jn _=H12 at s12
    have k12: ∀z,z≠jn->H12.get z=H.get z:=fun z hz=>by rw[<-hH12,q0d hz]
    have x12:H12.next=H.next:=by rw[<-hH12];rfl
    have nsc: ∀z,z<Hs.next-> ∀o m,c≠ .slice z o m:=fun z hz' o m e=>by
     rcases h2.2.2 with⟨e',_⟩ |⟨i',o',cs,e',g2,_⟩
     ·rw[e]at e';cases e'
     ·rw[e]at e';cases e';omega
    have o12:OInts H12 Hs.next c (oldL P i):=by rw[<-hH12];exact j0a h2 fun j p m e=>fun e'=>nsc jn hle.2.2.1 p m (e'▸e)
    have hn1:=h2.1
    obtain⟨q1,c',H',q2,q3,q4,q5⟩:=o12.append1 (lim:=M.lim) (by omega) (i:Int) (by omega)
    have hnum:(fun u=>if u=i then(((oldL P i).length:Nat):Int)else numF P i u)=numF P (i+1):=by
     funext v
     unfold numF
     by_cases hv:v=i
     ·subst hv;rw[if_pos rfl,if_pos ⟨by omega,hp⟩]
     ·rw[if_neg hv]
      have:(v<i/\P.getD v false=true)↔(v<i+1/\P.getD v false=true):=by constructor<;>intro h<;>exact⟨by omega,h.2⟩
      simp only[this]
    have g12:H12.get jn=some (.cells 1 (fc n (numF P (i+1)))):=by rw[<-hH12,put_same,<-hnum]
    have keep: ∀z,z<Hs.next->H'.get z=H12.get z:=fun z hz'=>q4.keep z (by omega) (nsc z hz')
    obtain⟨H2,c2,w⟩:=ih (i+1) H' c' (by omega) (by rw[keep jn hle.2.2.1];exact g12) (by rw[hold];exact q3) (by rw[hold];intro h;simp at h) (fun z hz' hne'=>by rw[keep z hz',k12 z hne'];exact h3 z hz' hne')
    refine⟨H2,c2, ?_,w.2⟩
    have ap:V.asP (.c (.ptr pn 0))=some (pn,0):=rfl
    simp only[iT,ap,oS,lp,hlen,q0g hin,s12,q1,q2,W0j,eI,w.1]
end
end Go.Proofs.Ytglkhoamnmiolaa.R
