/- - -/
import Derived.Test.YtglkhoamnmiolaaKg
set_option linter.all false
namespace Go.Proofs.Ytglkhoamnmiolaa.R
open Go Go.Proofs.Ytglkhoamnmiolaa.Vm
theorem k0Z(H:Heap)(x:C):Heap.cellsOf (H.alloc (.cells 1 [x])) 1 (.slice H.next 0 1)=some [x]:=by
 simp[Heap.cellsOf,Heap.ldN,alloc_new]
theorem J0j{H:Heap}{F:Nat->Prop}: ∀l:List Bool,EsR H F (uBs l) 1 (l.map C.bool)
 | []=>rfl
 |b::l=>⟨[.bool b],l.map C.bool,rfl,rfl,⟨rfl,rfl⟩,J0j l⟩
theorem j1n{H:Heap}{F:Nat->Prop}{j:Nat}{l:List Bool}(hF:F j)(hg:H.get j=some (.cells 1 (l.map C.bool))):UC H F (.sl true (uBs l)) [.slice j 0 l.length]:=by
 refine .inr ⟨rfl,j,0,_,1,by simp,hF,hg,by simp, ?_⟩
 rw[List.drop_zero,List.take_of_length_le (by simp)]
 exact J0j l
structure OneN (Ha:Heap) (bs:List Bool) (H:Heap):Prop where
 lt:Ha.next<H.next
 old: ∀i,i<Ha.next->H.get i=Ha.get i
 new:H.get Ha.next=some (.cells 1 (bs.map C.bool))
theorem OneN.fr{Ha H H0:Heap}{bs:List Bool}{b:Nat}(h:OneN Ha bs H)(f:FrB b H0 Ha):FrB b H0 H:=f.fr ⟨Nat.le_of_lt h.lt,h.old⟩
theorem OneN.set{Ha H:Heap}{bs:List Bool}{lim k:Nat}(h:OneN Ha bs H)(hl:lim<=Ha.next)(hk:k<bs.length): ∃H',Heap.st lim H Ha.next k [.bool true]=some H'/\OneN Ha (bs.set k true) H':=by
 refine⟨_,k0O h.new hl (by simpa using hk),h.lt,fun i hi=> ?_, ?_⟩
 ·rw[j0k (by omega)];exact h.old i hi
 ·rw[put_same,List.map_set]
section
variable{lim:Nat}{M:YM}(hM:CallsY lim M.ext){H0 Ha:Heap}{F:Nat->Prop}{b a:Nat}{b1 b2 b3 b4 b5:Bool}{l:List Int}{es:List E4}{xs:List (Bool×List Int)}{w0 w1:List Int}{c1 c2 c3 d0 d1:C}
variable(A:AW lim H0 F b a l es xs w0 w1 b1 b2 b3 b4 b5 c1 c2 c3 d0 d1){n:Nat}(hn:n=w0.length+w1.length)(fa:FrB b H0 Ha)
include A hn fa
theorem X0C{x:Bool×List Int}{k i s:Nat}{tab sets:C}(hk:xs[k]? =some x)(hi:x.2[i]? =some (s:Int))(hs:s<a)(hil:i<=1000000):
  ∀(d p:Nat) (bs:List Bool) (H:Heap),p+d=n->bs.length=a*n->OneN Ha bs H->
  ∃H' bs',f16_7 (MH lim) (a:Int) c1 c2 c3 (n:Int) tab sets (k:Int) (.slice Ha.next 0 (a*n)) (i:Int) (p:Int) H=f16_6 (MH lim) (a:Int) c1 c2 c3 (n:Int) tab sets (k:Int) (.slice Ha.next 0 (a*n)) ((i+1:Nat):Int) H'/\
   OneN Ha bs' H'/\bs'.length=a*n/\ ∀j,inB bs' j↔inB bs j\/ ∃q,p<=q/\q<n/\j=s*n+q:=by
 have ha:=A.ha;have hwn:=A.wn
 intro d
 induction d with
 |zero=>
  intro p bs H hp hbs ho
  refine⟨H,bs, ?_,ho,hbs,fun j=>⟨.inl,fun h=>h.elim id fun⟨q,q1,q2,_⟩=>by omega⟩⟩
  rw[K0t]
  simp only[show¬((p:Int)<(n:Int)) by omega,dF,bF,iF,q0b (show i<=1000000000 by omega)]
 |succ d ih=>
  intro p bs H hp hbs ho
  have hpn:p<n:=by omega
  obtain⟨i1,o1,cc,g1,g2,g3,g4⟩:=rdL (k0X A.u3 (ho.fr fa) A.hF) hk
  obtain⟨i2,o2,k1,k2,k3⟩:=rdN g4 hi
  have hnode:=k0s hs hpn
  have hbn:s*n<=300*60:=Nat.mul_le_mul (by omega) (by omega)
  have e1:IntKind.wrap .i64 ((s:Int)*(n:Int))=((s*n:Nat):Int):=by rw[<-Int.natCast_mul,q0h (by omega) (by omega)]
  have e2:IntKind.wrap .i64 (((s*n:Nat):Int)+(p:Int))=((s*n+p:Nat):Int):=by rw[q0h (by omega) (by omega)];omega
  obtain⟨H2,q1,q2⟩:=ho.set (lim:=lim) (k:=s*n+p) (nT A.hl fa.next) (by omega)
  obtain⟨H',bs',y1,y2,y3,y4⟩:=ih (p+1) _ H2 (by omega) (by simp[hbs]) q2
  refine⟨H',bs', ?_,y2,y3,fun j=> ?_⟩
  ·rw[K0t]
   simp only[show((p:Int)<(n:Int)) by omega,dY,iT,g1,oS,g3,k1,k3,asI_int,e1,e2,k0n hnode,q1,q0b (show p<=1000000000 by omega),y1]
  ·rw[y4 j,j0l (by omega)]
   constructor
   ·rintro((h |h) |⟨q,h1,h2,h3⟩)
    ·exact .inr ⟨p,nR _,hpn,h⟩
    ·exact .inl h
    ·exact .inr ⟨q,by omega,h2,h3⟩
   ·rintro(h |⟨q,h1,h2,h3⟩)
    ·exact .inl (.inr h)
    ·by_cases hq:q=p
     ·subst hq;exact .inl (.inl h3)
     ·exact .inr ⟨q,by omega,h2,h3⟩
theorem X0D{x:Bool×List Int}{k:Nat}{tab sets:C}(hk:xs[k]? =some x):
  ∀(d i:Nat) (bs:List Bool) (H:Heap),i+d=x.2.length->bs.length=a*n->OneN Ha bs H->
  ∃H' bs',f16_6 (MH lim) (a:Int) c1 c2 c3 (n:Int) tab sets (k:Int) (.slice Ha.next 0 (a*n)) (i:Int) H=f16_6 (MH lim) (a:Int) c1 c2 c3 (n:Int) tab sets (k:Int) (.slice Ha.next 0 (a*n)) (x.2.length:Int) H'/\
   OneN Ha bs' H'/\bs'.length=a*n/\ ∀j,inB bs' j↔inB bs j\/ ∃s:Nat,(s:Int)∈x.2.drop i/\ ∃q,q<n/\j=s*n+q:=by
 have hx:=A.hxs x (List.mem_of_getElem? hk)
 intro d
 induction d with
 |zero=>
  intro i bs H hi hbs ho
  have:i=x.2.length:=by omega
  subst this
  exact⟨H,bs,rfl,ho,hbs,fun j=>⟨.inl,fun h=>h.elim id fun⟨s,hs,_⟩=>by simp at hs⟩⟩
 |succ d ih=>
  intro i bs H hi hbs ho
  have hlt:i<x.2.length:=by omega
  obtain⟨y0,y1⟩:=hx.2 x.2[i] (lM hlt)
  obtain⟨s,hs⟩:=iZ y0
  have hget:x.2[i]? =some (s:Int):=by rw[q0a hlt,hs]
  rw[hs]at y1
  obtain⟨H1,bs1,z1,z2,z3,z4⟩:=X0C A hn fa (tab:=tab) (sets:=sets) hk hget (by omega) (by omega) n 0 bs H (by omega) hbs ho
  obtain⟨H',bs',k1,k2,k3,k4⟩:=ih (i+1) bs1 H1 (by omega) z3 z2
  obtain⟨i1,o1,cc,g1,g2,g3,g4⟩:=rdL (k0X A.u3 (ho.fr fa) A.hF) hk
  refine⟨H',bs', ?_,k2,k3,fun j=> ?_⟩
  ·rw[K0q]
   rw[show((0:Nat):Int)=0 from rfl]at z1
   simp only[g1,oS,g3,q1P g4,show((i:Int)<((x.2.length:Nat):Int)) by omega,dY,iT,z1,k1]
  ·rw[k4 j,z4 j,List.drop_eq_getElem_cons hlt]
   constructor
   ·rintro((h |⟨q,_,h2,h3⟩) |⟨s',h1,h2⟩)
    ·exact .inl h
    ·exact .inr ⟨s,by rw[hs];simp,q,h2,h3⟩
    ·exact .inr ⟨s',by simp only[mC];exact .inr h1,h2⟩
   ·rintro(h |⟨s',h1,q,h2,h3⟩)
    ·exact .inl (.inl h)
    ·rcases mC.1 h1 with h |h
     ·have:s'=s:=by omega
      subst this
      exact .inl (.inr ⟨q,Nat.zero_le _,h2,h3⟩)
     ·exact .inr ⟨s',h,q,h2,h3⟩
omit fa
def Marks(n:Nat)(x:Bool×List Int)(bs:List Bool):Prop:= ∀j,inB bs j↔ ∃s:Nat,(s:Int)∈x.2/\ ∃q,q<n/\j=s*n+q
def setU(l:List Bool):U:= .sl true (uBs l)
theorem X0E{Hm:Heap}(fm:FrB b H0 Hm){tab:C}:
  ∀(d k:Nat) (H:Heap) (G:Nat->Prop) (ls:List (List Bool)) (c:C),k+d=xs.length->Grow Hm H->(∀i,F i->G i)->(∀i,G i->i<H.next)->(∀i,G i->F i\/Hm.next<=i)->OutR Hm.next H G 1 (ls.map setU) c->ls.length=k->
   (∀l'∈ls,l'.length=a*n)->(∀(k':Nat) (l':List Bool) (x:Bool×List Int),ls[k']? =some l'->xs[k']? =some x->Marks n x l')->
  ∃(H':Heap) (G':Nat->Prop) (ls':List (List Bool)) (c':C),f16_5 (MH lim) (a:Int) c1 c2 c3 (n:Int) tab c (k:Int) H=f16_5 (MH lim) (a:Int) c1 c2 c3 (n:Int) tab c' (xs.length:Int) H'/\
   Grow Hm H'/\(∀i,F i->G' i)/\(∀i,G' i->i<H'.next)/\(∀i,G' i->F i\/Hm.next<=i)/\OutR Hm.next H' G' 1 (ls'.map setU) c'/\ls'.length=xs.length/\(∀l':List Bool,l'∈ls'->l'.length=a*n)/\(∀(k':Nat) (l':List Bool) (x:Bool×List Int),ls'[k']? =some l'->xs[k']? =some x->Marks n x l'):=by
 have ha:=A.ha;have hwn:=A.wn;have hx8:=A.hx
 intro d
 induction d with
 |zero=>
  intro k H G ls c hk g h1 h2 h3 h4 h5 h6 h7
  have:k=xs.length:=by omega
  subst this
  exact⟨H,G,ls,c,rfl,g,h1,h2,h3,h4,h5,h6,h7⟩
 |succ d ih=>
  intro k H G ls c hk g h1 h2 h3 h4 h5 h6 h7
  have hlt:k<xs.length:=by omega
  have hg:xs[k]? =some xs[k]:=q0a hlt
  have fa:FrB b H0 H:=fm.fr g
  have hN:a*n<=300*60:=Nat.mul_le_mul ha (by omega)
  have o0:OneN H (List.replicate (a*n) false) (H.alloc (.cells 1 (List.replicate (a*n) [C.bool false]).flatten)):=by
   refine⟨Nat.lt_succ_self _,fun i hi=>q0k hi, ?_⟩
   rw[alloc_new,show [C.bool false]=List.replicate 1 (C.bool false)from rfl,List.flatten_replicate_replicate,Nat.mul_one,List.map_replicate]
  obtain⟨H1,bs,z1,z2,z3,z4⟩:=X0D A hn fa (tab:=tab) (sets:=c) hg xs[k].2.length 0 _ _ (by omega) (by simp) o0
  let G1:Nat->Prop:=fun i=>G i\/i=H.next
  have f2:FrX none H G (H1.alloc (.cells 1 [.slice H.next 0 (a*n)])) G1:=by
   refine⟨?_,fun i hi _=> ?_,fun i hi=> .inl hi,fun i hi=>hi.imp id fun e=>Nat.le_of_eq e.symm,fun i hi=> ?_⟩
   ·have:=z2.lt;simp;omega
   ·rw[q0k (by have:=z2.lt;omega)];exact z2.old i hi
   ·have:=z2.lt
    rcases hi with hi |hi
    ·have:=h2 i hi;simp;omega
    ·simp;omega
  have o2:=h4.fr f2 (fun i e=>by cases e) h2
  have u2:UC (H1.alloc (.cells 1 [.slice H.next 0 (a*n)])) G1 (setU bs) [.slice H.next 0 (a*n)]:=by
   rw[<-z3]
   exact j1n (.inr rfl) (by rw[q0k z2.lt];exact z2.new)
  obtain⟨c',H2,y1,y2,y3,y4,y5⟩:=o2.app (lim:=lim) (nT A.hl fm.next) f2.lt (nT g.next f2.next) u2 rfl (by rw[List.length_map,h5];omega)
  have hmk:Marks n xs[k] bs:=fun j=>by
   rw[z4 j,List.drop_zero]
   refine⟨fun h=>h.elim (fun h=> ?_) id, .inr⟩
   rw[inB,List.getElem?_replicate]at h
   split at h<;>cases h
  obtain⟨H',G',ls',c'',q1,q⟩:=ih (k+1) H2 G1 (ls++[bs]) c' (by omega) ⟨nT g.next (nT f2.next y3),fun i hi=>by
    rw[y5 i hi,f2.keep i (nL hi g.next) (fun e=>by cases e)];exact g.keep i hi⟩ (fun i hi=> .inl (h1 i hi)) (fun i hi=>nL (f2.lt i hi) y3)
   (fun i hi=>hi.elim (h3 i) fun e=> .inr (by rw[e];exact g.next)) (by rw[List.map_append];exact y2) (by simp[h5]) (fun l' hl'=>by
    rcases mA.1 hl' with h |h
    ·exact h6 l' h
    ·rw[List.mem_singleton.1 h];exact z3) (fun k' l' x e1 e2=>by
    by_cases hk':k'<ls.length
    ·rw[List.getElem?_append_left hk']at e1;exact h7 k' l' x e1 e2
    ·have hkk:k'=ls.length:=by have:=(gE.1 e1).1;simp at this;omega
     subst hkk
     rw[List.getElem?_append_right (nR _),Nat.sub_self]at e1
     simp at e1
     subst e1
     rw[h5,hg]at e2
     cases e2
     exact hmk)
  refine⟨H',G',ls',c'', ?_,q⟩
  have e1:IntKind.wrap .i64 ((a:Int)*(n:Int))=((a*n:Nat):Int):=by rw[<-Int.natCast_mul,q0h (by omega) (by omega)]
  rw[show((0:Nat):Int)=0 from rfl]at z1
  rw[K0p]
  simp only[k1S (k0X A.u3 fa A.hF),oS,show((k:Int)<((xs.length:Nat):Int)) by omega,dY,iT,e1,iN]
  rw[if_pos ⟨by omega,by omega⟩,z1,K0q]
  obtain⟨i1,o1,cc,g1,g2,g3,g4⟩:=rdL (k0X A.u3 (z2.fr fa) A.hF) hg
  simp only[g1,oS,g3,q1P g4,Int.lt_irrefl,dF,bF,iF,k0Z,y1,q0b (show k<=1000000000 by omega),q1]
end
end Go.Proofs.Ytglkhoamnmiolaa.R
