/- - -/
import Derived.Test.YtglkhoamnmiolaaKc
set_option linter.all false
namespace Go.Proofs.Ytglkhoamnmiolaa.R
open Go Go.Proofs.Ytglkhoamnmiolaa.Vm
theorem Rn.mono{nx:Nat->Nat->Prop}{P P' T T':Nat->Prop}(hP: ∀i,P i->P' i)(hT: ∀i,P i->T i->T' i): ∀{d v},Rn nx P T d v->Rn nx P' T' d v
 | 0,v,⟨w,h1,h2,h3⟩=>⟨w,h1,hP _ h2,hT _ h2 h3⟩
 |d+1,v,⟨w,h1,h2,h3⟩=>⟨w,h1,hP _ h2,Rn.mono hP hT h3⟩
section
variable{M:YM}{n:Nat}{rows:List (Bool×List Int)}{Ts:List (List Bool)}{f3:Bool->Sx->YRs}{f4:Bool->Int->Sx->YRs}{f5:Bool->Int->Int->Sx->Sx->YRs}
def Post(rows:List (Bool×List Int))(Ts:List (List Bool))(X:Nat->Prop):Prop:= ∀(u:Nat),X u-> ∀(k:Nat) (T:List Bool),Ts[k]? =some T-> ∃d,Rn (nxR rows) X (inB T) d u
variable(hn:n<=1000000)(hTn: ∀T∈Ts,T.length=n)(hm:Ts.length<=1000000)
 (e3: ∀c v,f3 c v=if c=true then f4 false 0 v else if scals v.es=true then some (.sl v)else none)
 (e4: ∀c (k:Nat) (P:List Bool) T,P.length=n->Ts[k]? =some T-> ∃now:List Bool,now.length=n/\(∀i,inB now i↔Goal rows P T i)/\f4 c (k:Int) ⟨true,1,uBs P⟩=f5 c (k:Int) 0 ⟨true,1,uBs P⟩ ⟨true,1,uBs now⟩)
 (e4': ∀c P,f4 c (Ts.length:Int) ⟨true,1,uBs P⟩=f3 c ⟨true,1,uBs P⟩)
 (e5: ∀c (k i:Nat) (P now:List Bool) p o,P.length=n->now.length=n->P[i]? =some p->now[i]? =some o->i<n->f5 c (k:Int) (i:Int) ⟨true,1,uBs P⟩ ⟨true,1,uBs now⟩=
  if p=true/\o=false then f5 true (k:Int) ((i+1:Nat):Int) ⟨true,1,uBs (P.set i false)⟩ ⟨true,1,uBs now⟩else f5 c (k:Int) ((i+1:Nat):Int) ⟨true,1,uBs P⟩ ⟨true,1,uBs now⟩)
 (e5': ∀c (k:Nat) (P now:List Bool),P.length=n->k<Ts.length->f5 c (k:Int) (n:Int) ⟨true,1,uBs P⟩ ⟨true,1,uBs now⟩=f4 c ((k+1:Nat):Int) ⟨true,1,uBs P⟩)
include e5 e5' in
theorem Z1n{k:Nat}(hk:k<Ts.length){P1 now:List Bool}{c0:Bool}(h1:P1.length=n)(hnow:now.length=n): ∀(e i:Nat) (P:List Bool) (c:Bool),i+e=n->P.length=n->(∀j,inB P j↔inB P1 j/\(j<i->inB now j))->
  (c=false->P=P1/\c0=false)->(c=true->c0=true\/cf P1<cf P)->cf P1<=cf P->
  ∃c' P',f5 c (k:Int) (i:Int) ⟨true,1,uBs P⟩ ⟨true,1,uBs now⟩=f4 c' ((k+1:Nat):Int) ⟨true,1,uBs P'⟩/\P'.length=n/\(∀j,inB P' j↔inB P1 j/\inB now j)/\(c'=false->P'=P1/\c0=false)/\(c'=true->c0=true\/cf P1<cf P')/\cf P1<=cf P':=by
 intro e
 induction e with
 |zero=>
  intro i P c hi hl hP hc hc2 hle
  have:i=n:=by omega
  subst this
  refine⟨c,P,e5' c k P now hl hk,hl,fun j=> ?_,hc,hc2,hle⟩
  rw[hP j]
  exact⟨fun⟨a,b⟩=>⟨a,b (by have:=(gE.1 a).1;omega)⟩,fun⟨a,b⟩=>⟨a,fun _=>b⟩⟩
 |succ e ih=>
  intro i P c hi hl hP hc hc2 hle
  obtain⟨p,hp⟩: ∃p,P[i]? =some p:=⟨_,q0a (by omega)⟩
  obtain⟨o,ho⟩: ∃o,now[i]? =some o:=⟨_,q0a (by omega)⟩
  rw[e5 c k i P now p o hl hnow hp ho (by omega)]
  by_cases h:p=true/\o=false
  ·rw[if_pos h]
   rw[h.1]at hp;rw[h.2]at ho
   have hcf:=k0V hp
   refine ih (i+1) (P.set i false) true (by omega) (by simp[hl]) (fun j=> ?_) (fun h=>by cases h) (fun _=> .inr (by omega)) (by omega)
   have hno: ¬inB now i:=fun h=>by rw[inB,ho]at h;cases h
   unfold inB
   rw[List.getElem?_set]
   by_cases hij:i=j
   ·subst hij
    rw[if_pos rfl,if_pos (by omega)]
    exact⟨fun h=>(by cases h),fun⟨_,g⟩=>absurd (g (by omega)) hno⟩
   ·rw[if_neg hij]
    exact(hP j).trans ⟨fun⟨a,b⟩=>⟨a,fun hj=>b (by omega)⟩,fun⟨a,b⟩=>⟨a,fun hj=>b (by omega)⟩⟩
  ·rw[if_neg h]
   refine ih (i+1) P c (by omega) hl (fun j=> ?_) hc hc2 hle
   refine(hP j).trans ⟨fun⟨a,b⟩=>⟨a,fun hj=> ?_⟩,fun⟨a,b⟩=>⟨a,fun hj=>b (by omega)⟩⟩
   by_cases hij:j=i
   ·subst hij
    have hpj:inB P j:=(hP j).2 ⟨a,b⟩
    rw[inB,hp]at hpj
    cases o with
    |true=>exact ho
    |false=>exact absurd ⟨Option.some.inj hpj,rfl⟩ h
   ·exact b (by omega)
include e4 e4' e5 e5' in
theorem J1j{P0:List Bool}: ∀(e k:Nat) (P:List Bool) (c:Bool),k+e=Ts.length->P.length=n->(∀X,Post rows Ts X->(∀u,X u->u<n)-> ∀u,X u->inB P u)->
  (c=false->P=P0/\ ∀(k':Nat) (T:List Bool) (u:Nat),k'<k->Ts[k']? =some T->inB P0 u-> ∃d,Rn (nxR rows) (inB P0) (inB T) d u)->(c=true->cf P0<cf P)->cf P0<=cf P->
  ∃c' P',f4 c (k:Int) ⟨true,1,uBs P⟩=f3 c' ⟨true,1,uBs P'⟩/\P'.length=n/\(∀X,Post rows Ts X->(∀u,X u->u<n)-> ∀u,X u->inB P' u)/\(c'=false->P'=P0/\Post rows Ts (inB P0))/\(c'=true->cf P0<cf P'):=by
 intro e
 induction e with
 |zero=>
  intro k P c hk hl hX hc hc2 hle
  have:k=Ts.length:=by omega
  subst this
  refine⟨c,P,e4' c P,hl,hX,fun h=>⟨(hc h).1,fun u hu k' T hT=>(hc h).2 k' T u (gE.1 hT).1 hT hu⟩,hc2⟩
 |succ e ih=>
  intro k P c hk hl hX hc hc2 hle
  have hlt:k<Ts.length:=by omega
  obtain⟨now,n1,n2,n3⟩:=e4 c k P _ hl (q0a hlt)
  obtain⟨c',P',g1,g2,g3,g4,g5,g6⟩:=Z1n e5 e5' hlt (c0:=c) hl n1 n 0 P c (by omega) hl (fun j=>⟨fun h=>⟨h,fun h=>by omega⟩,fun h=>h.1⟩) (fun h=>⟨rfl,h⟩) (fun h=> .inl h) (nR _)
  rw[n3]
  rw[show((0:Nat):Int)=0 from rfl]at g1
  rw[g1]
  refine ih (k+1) P' c' (by omega) g2 (fun X hX1 hX2 u hu=>(g3 u).2 ⟨hX X hX1 hX2 u hu,(n2 u).2 ⟨hX X hX1 hX2 u hu, ?_⟩⟩) (fun h=> ?_) (fun h=> ?_) (by omega)
  ·obtain⟨d,hd⟩:=hX1 u hu k _ (q0a hlt)
   exact⟨d,hd.mono (hX X hX1 hX2) fun _ _ h=>h⟩
  ·obtain⟨q1,q2⟩:=g4 h
   obtain⟨q3,q4⟩:=hc q2
   subst q3
   refine⟨q1,fun k' T u hk' hT hu=> ?_⟩
   by_cases hkk:k'<k
   ·exact q4 k' T u hkk hT hu
   ·have:k'=k:=by omega
    subst this
    rw[q0a hlt]at hT
    cases hT
    rw[<-q1]at hu
    exact((n2 u).1 ((g3 u).1 hu).2).2
  ·rcases g5 h with q |q
   ·have:=hc2 q;omega
   ·omega
include e3 e4 e4' e5 e5' in
theorem J1k: ∀(d:Nat) (P:List Bool),n - cf P<=d->P.length=n->(∀X,Post rows Ts X->(∀u,X u->u<n)-> ∀u,X u->inB P u)->
  ∃P',f3 true ⟨true,1,uBs P⟩=some (.sl ⟨true,1,uBs P'⟩)/\P'.length=n/\(∀X,Post rows Ts X->(∀u,X u->u<n)-> ∀u,X u->inB P' u)/\Post rows Ts (inB P'):=by
 intro d
 induction d with
 |zero=>
  intro P hd hl hX
  obtain⟨c',P',g1,g2,g3,g4,g5⟩:=J1j (P0:=P) e4 e4' e5 e5' Ts.length 0 P false (by omega) hl hX (fun _=>⟨rfl,fun k' T u h=>by omega⟩) (fun h=>by cases h) (nR _)
  rw[e3,if_pos rfl]
  rw[show((0:Nat):Int)=0 from rfl]at g1
  rw[g1]
  cases c' with
  |false=>obtain⟨rfl,q2⟩:=g4 rfl;exact⟨P',by rw[e3];simp[q0S],g2,g3,q2⟩
  |true=>have:=g5 rfl;have:=q1a P';omega
 |succ d ih=>
  intro P hd hl hX
  obtain⟨c',P',g1,g2,g3,g4,g5⟩:=J1j (P0:=P) e4 e4' e5 e5' Ts.length 0 P false (by omega) hl hX (fun _=>⟨rfl,fun k' T u h=>by omega⟩) (fun h=>by cases h) (nR _)
  rw[e3,if_pos rfl]
  rw[show((0:Nat):Int)=0 from rfl]at g1
  rw[g1]
  cases c' with
  |false=>obtain⟨rfl,q2⟩:=g4 rfl;exact⟨P',by rw[e3];simp[q0S],g2,g3,q2⟩
  |true=>have h1:=g5 rfl;exact ih P' (by omega) g2 g3
end
def uSs(b:Bool)(ss:List (Bool×List Bool)):U:= .sl b (ss.map fun x=> .sl x.1 (uBs x.2))
theorem w1H{b:Bool}{ss:List (Bool×List Bool)}{k:Nat}{x:Bool×List Bool}(h:ss[k]? =some x):U.idx 1 (uSs b ss) (k:Int)=some (.sl x.1 (uBs x.2)):=by
 simp[U.idx,U.asL,uSs,elU,h,U.size,U.cells]
structure Rev (rows rows':List (Bool×List Int)):Prop where
 len:rows'.length=rows.length
 ok: ∀r∈rows',(∀y∈r.2,0<=y/\y<(rows.length:Int))/\r.2.length<=1000000000
 iff: ∀u v:Nat,nxR rows' u v↔(v:Int)∈(rows.getD u (false,[])).2
def Table(n:Nat)(rows:List (Bool×List Int)):Prop:=rows.length=n/\(∀r∈rows,∀y∈r.2,0<=y/\y<(n:Int))/\(rows.map fun r=>r.2.length).sum<=1000000
def HasRev(M:YM):Prop:= ∀(b:Bool) (n:Nat) (rows:List (Bool×List Int)),n<=1000000->Table n rows-> ∃rows',y82 M (uLs b rows)=some (.val (uLs true rows'))/\Rev rows rows'
def nxT(rows:List (Bool×List Int))(u v:Nat):Prop:=(v:Int)∈(rows.getD u (false,[])).2
section
variable{M:YM}{n:Nat}{rows:List (Bool×List Int)}
theorem w1I(l:List Bool):Sx.fz (⟨true,1,uBs l⟩:Sx)= .sl true (uBs l):=rfl
theorem W0E(hn:n<=1000000){nx sets:U}: ∀(d k:Nat) (l:List Bool),k+d=n->l.length=n->(∀j,j<k->l[j]? =some true)->y44_1 M nx sets (k:Int) ⟨true,1,uBs l⟩=y44_1 M nx sets (n:Int) ⟨true,1,uBs (List.replicate n true)⟩:=by
 intro d
 induction d with
 |zero=>
  intro k l hk hl hj
  have:k=n:=by omega
  subst this
  congr 3
  refine List.ext_getElem? fun j=> ?_
  by_cases h:j<k
  ·rw[hj j h,List.getElem?_replicate,if_pos h]
  ·rw[List.getElem?_eq_none (by omega),List.getElem?_eq_none (by simp;omega)]
 |succ d ih=>
  intro k l hk hl hj
  rw[Q0Q]
  simp only[uBs_length,hl,show((k:Int)<((n:Nat):Int)) by omega,dY,iT,q0M (show k<l.length by omega),iN,show(U.c (.bool true))=uB true from rfl,q0T (show k<l.length by omega),oS,q0b (show k<=1000000000 by omega)]
  refine ih (k+1) (l.set k true) (by omega) (by simp[hl]) fun j h=> ?_
  rw[List.getElem?_set]
  by_cases e:k=j
  ·subst e;rw[if_pos rfl,if_pos (by omega)]
  ·rw[if_neg e];exact hj j (by omega)
structure FairR (n:Nat) (rows:List (Bool×List Int)) (Ts:List (List Bool)) (P:List Bool):Prop where
 len:P.length=n
 max: ∀X,Post rows Ts X->(∀u,X u->u<n)-> ∀u,X u->inB P u
 post:Post rows Ts (inB P)
variable(hn:n<=1000000)(hT:Table n rows)(hrev:HasRev M)
include hn hT hrev
theorem Z1o{b b2:Bool}{ss:List (Bool×List Bool)}(hs: ∀x∈ss,x.2.length=n)(hm:ss.length<=1000000)(h0:ss≠[]):
  ∃rows' P,Rev rows rows'/\y44 M (uLs b rows) (uSs b2 ss)=some (.sl ⟨true,1,uBs P⟩)/\FairR n rows' (ss.map (·.2)) P:=by
 obtain⟨rows',r1,r2⟩:=hrev b n rows hn hT
 have hrl:rows'.length=n:=by rw[r2.len,hT.1]
 have hrok: ∀r∈rows',(∀y∈r.2,0<=y/\y<(n:Int))/\r.2.length<=1000000000:=fun r hr=>by have:=r2.ok r hr;rw[hT.1]at this;exact this
 have hsl:(uSs b2 ss).len=some ss.length:=by simp[uSs,U.len,U.asL]
 have hp:ss.length≠0:=fun h=>h0 (List.length_eq_zero_iff.1 h)
 obtain⟨P,k1,k2,k3,k4⟩:=J1k (n:=n) (rows:=rows') (Ts:=ss.map (·.2)) (f3:=fun c v=>y44_3b M (uLs true rows') (uSs b2 ss) c v) (f4:=fun c k v=>y44_4b M (uLs true rows') (uSs b2 ss) c k v) (f5:=fun c k i v now=>y44_5b M (uLs true rows') (uSs b2 ss) c k i v now)
  (fun c v=>Y0r M _ _ c v)
  (fun c k P T hP hT'=>by
   rw[List.getElem?_map]at hT'
   obtain⟨x,hx,rfl⟩:=oM.1 hT'
   have hk:=(gE.1 hx).1
   obtain⟨out,o1,o2,o3⟩:=k1Z (M:=M) (rows:=rows') (P:=P) (T:=x.2) (bb:=true) (b2:=x.1) hn hrl hP (hs x (List.mem_of_getElem? hx)) hrok
   refine⟨out,o2,o3, ?_⟩
   show y44_4b M _ _ _ _ _=_
   rw[J0J]
   simp only[hsl,oS,show((k:Int)<((ss.length:Nat):Int)) by omega,dY,iT,w1H hx,w1I]
   rw[show U.cell (.sl x.1 (uBs x.2)) 0=some (.sl x.1 (uBs x.2))from rfl]
   simp only[oS,o1,Rz.asSl])
  (fun c P=>by
   show y44_4b M _ _ _ _ _=_
   rw[J0J]
   simp only[hsl,oS,List.length_map,Int.lt_irrefl,dF,bF,iF])
  (fun c k i P now p o hP hnow hp ho hi=>by
   show y44_5b M _ _ _ _ _ _ _=_
   rw[J0K]
   simp only[uBs_length,hP,show((i:Int)<((n:Nat):Int)) by omega,dY,iT,q0M (show i<P.length by omega),q0M (show i<now.length by omega),iN,j0k hp,j0k ho,oS,cell_c,asB_c,Y0s,q0b (show i<=1000000000 by omega),show(U.c (.bool false))=uB false from rfl,q0T (show i<P.length by omega)]
   cases p<;>cases o<;>simp)
  (fun c k P now hP hk=>by
   show y44_5b M _ _ _ _ _ _ _=_
   rw[J0K]
   rw[List.length_map]at hk
   simp only[uBs_length,hP,Int.lt_irrefl,dF,bF,iF,q0b (show k<=1000000000 by omega)])
  n (List.replicate n true) (by omega) (by simp) (fun X _ hX u hu=>by
   show(List.replicate n true)[u]? =some true
   rw[List.getElem?_replicate,if_pos (hX u hu)])
 refine⟨rows',P,r2, ?_,k2,k3,k4⟩
 rw[k1Q]
 have hlen:(uLs b rows).len=some rows.length:=by simp[uLs,U.len,U.asL]
 have hrep:List.replicate n (U.c (.bool false))=uBs (List.replicate n false):=by simp[uBs]
 simp only[hlen,oS,hT.1,iN,hrep]
 rw[if_pos ⟨by omega,by omega,trivial⟩]
 have:=W0E (M:=M) hn (nx:=uLs b rows) (sets:=uSs b2 ss) n 0 (List.replicate n false) (by omega) (by simp) (fun j h=>by omega)
 rw[show((0:Nat):Int)=0 from rfl]at this
 rw[this,Q0Q]
 simp only[uBs_length,List.length_replicate,Int.lt_irrefl,dF,bF,iF,r1,oS,toU_val,hsl,show¬(((ss.length:Nat):Int)=0) by omega]
 rw[show U.one (uLs true rows')=some (uLs true rows')from rfl]
 simp only[oS,Y0q]
 exact k1
theorem Z1p{b b2:Bool}: ∃rows' P,Rev rows rows'/\y44 M (uLs b rows) (uSs b2 [])=some (.sl ⟨true,1,uBs P⟩)/\FairR n rows' [List.replicate n true] P:=by
 obtain⟨rows',r1,r2⟩:=hrev b n rows hn hT
 have hrl:rows'.length=n:=by rw[r2.len,hT.1]
 have hrok: ∀r∈rows',(∀y∈r.2,0<=y/\y<(n:Int))/\r.2.length<=1000000000:=fun r hr=>by have:=r2.ok r hr;rw[hT.1]at this;exact this
 obtain⟨P,k1,k2,k3,k4⟩:=J1k (n:=n) (rows:=rows') (Ts:=[List.replicate n true]) (f3:=fun c v=>y44_3 M (uLs true rows') c v ⟨true,1,[.sl true (uBs (List.replicate n true))]⟩) (f4:=fun c k v=>y44_4 M (uLs true rows') c k v ⟨true,1,[.sl true (uBs (List.replicate n true))]⟩) (f5:=fun c k i v now=>y44_5 M (uLs true rows') c k i v ⟨true,1,[.sl true (uBs (List.replicate n true))]⟩ now)
  (fun c v=>j1P M _ c v _)
  (fun c k P T hP hT'=>by
   have hk:k=0:=by have:=(gE.1 hT').1;simpa using this
   subst hk
   have hTe:T=List.replicate n true:=by simpa using hT'.symm
   subst hTe
   obtain⟨out,o1,o2,o3⟩:=k1Z (M:=M) (rows:=rows') (P:=P) (T:=List.replicate n true) (bb:=true) (b2:=true) hn hrl hP (by simp) hrok
   refine⟨out,o2,o3, ?_⟩
   show y44_4 M _ _ _ _ _=_
   rw[K0G]
   rw[show Sx.has (⟨true,1,[.sl true (uBs (List.replicate n true))]⟩:Sx) 1 ((0:Nat):Int)=true from rfl]
   simp only[List.length_cons,List.length_nil,show(((0:Nat):Int)<((0+1:Nat):Int)) by omega,dY,iT,iN,List.getElem?_cons_zero,oS,w1I]
   rw[show U.cell (.sl true (uBs (List.replicate n true))) 0=some (.sl true (uBs (List.replicate n true)))from rfl]
   simp only[oS,o1,Rz.asSl])
  (fun c P=>by
   show y44_4 M _ _ _ _ _=_
   rw[K0G]
   simp only[List.length_cons,List.length_nil,Int.lt_irrefl,dF,bF,iF])
  (fun c k i P now p o hP hnow hp ho hi=>by
   show y44_5 M _ _ _ _ _ _ _=_
   rw[K0H]
   simp only[uBs_length,hP,show((i:Int)<((n:Nat):Int)) by omega,dY,iT,q0M (show i<P.length by omega),q0M (show i<now.length by omega),iN,j0k hp,j0k ho,oS,cell_c,asB_c,j1Q,q0b (show i<=1000000000 by omega),show(U.c (.bool false))=uB false from rfl,q0T (show i<P.length by omega)]
   cases p<;>cases o<;>simp)
  (fun c k P now hP hk=>by
   show y44_5 M _ _ _ _ _ _ _=_
   rw[K0H]
   have:k=0:=by simpa using hk
   simp only[uBs_length,hP,Int.lt_irrefl,dF,bF,iF,q0b (show k<=1000000000 by omega)])
  n (List.replicate n true) (by omega) (by simp) (fun X _ hX u hu=>by
   show(List.replicate n true)[u]? =some true
   rw[List.getElem?_replicate,if_pos (hX u hu)])
 refine⟨rows',P,r2, ?_,k2,k3,k4⟩
 rw[k1Q]
 have hlen:(uLs b rows).len=some rows.length:=by simp[uLs,U.len,U.asL]
 have hrep:List.replicate n (U.c (.bool false))=uBs (List.replicate n false):=by simp[uBs]
 simp only[hlen,oS,hT.1,iN,hrep]
 rw[if_pos ⟨by omega,by omega,trivial⟩]
 have:=W0E (M:=M) hn (nx:=uLs b rows) (sets:=uSs b2 []) n 0 (List.replicate n false) (by omega) (by simp) (fun j h=>by omega)
 rw[show((0:Nat):Int)=0 from rfl]at this
 have hap:Sx.app (⟨true,1,[]⟩:Sx) 1 (uBs (List.replicate n true))=some ⟨true,1,uBs (List.replicate n true)⟩:=Z0N (fun x hx=>by
  simp only[uBs,List.mem_map]at hx
  obtain⟨c,_,rfl⟩:=hx;rfl) (by simp;omega)
 rw[this,Q0Q]
 simp only[uBs_length,List.length_replicate,Int.lt_irrefl,dF,bF,iF,r1,oS,toU_val,hap]
 rw[show U.one (uLs true rows')=some (uLs true rows')from rfl,show(uSs b2 []).len=some 0 from rfl]
 simp only[oS,show(((0:Nat):Int)=0)from rfl,dY,iT,j1O,w1I]
 exact k1
end
section
variable{n:Nat}{rows rows':List (Bool×List Int)}{P:List Bool}
theorem z1o(h:rows.length=n){u v:Nat}(hx:nxT rows u v):u<n:=by
 by_cases hu:u<rows.length
 ·omega
 ·rw[nxT,lG,List.getElem?_eq_none (by omega)]at hx
  simp at hx
theorem k1X(h:Rev rows rows'):nxR rows'=nxT rows:=by
 funext u v
 exact propext (h.iff u v)
theorem Inf.lt{m:Nat}{S:Nat->Nat->Prop}(h:rows.length=n){u:Nat}(hi:Inf (nxT rows) m S u):u<n:=by
 obtain⟨f,rfl,h1,_⟩:=hi
 exact z1o h (h1 0)
theorem FairR.inf{Ts:List (List Bool)}(hl:rows.length=n)(hr:Rev rows rows')(h:FairR n rows' Ts P)(hm:0<Ts.length)(u:Nat):
  inB P u↔Inf (nxT rows) Ts.length (fun k=>inB (Ts.getD k [])) u:=by
 have e:=k1X hr
 have hg: ∀k,k<Ts.length->Ts[k]? =some (Ts.getD k []):=fun k hk=>by rw[lG,List.getElem?_eq_getElem hk];rfl
 constructor
 ·intro hu
  refine k0E (P:=inB P) hm (fun w hw k hk=> ?_) hu
  have:=h.post w hw k _ (hg k hk)
  rw[e]at this
  exact this
 ·intro hi
  refine h.max (fun w=>Inf (nxT rows) Ts.length (fun k=>inB (Ts.getD k [])) w) (fun w hw k T hT=> ?_) (fun w hw=>Inf.lt hl hw) u hi
  have hk:=(gE.1 hT).1
  rw[hg k hk]at hT
  cases hT
  rw[e]
  exact Inf.reach (S:=fun k=>inB (Ts.getD k [])) (fun _ h=>h) hk hw
theorem FairR.inf0(hl:rows.length=n)(hr:Rev rows rows')(h:FairR n rows' [List.replicate n true] P)(u:Nat)(S:Nat->Nat->Prop):
  inB P u↔Inf (nxT rows) 0 S u:=by
 have e:=k1X hr
 constructor
 ·intro hu
  refine w0z (P:=inB P) (fun w hw=> ?_) hu
  obtain⟨d,hd⟩:=h.post w hw 0 _ rfl
  rw[e]at hd
  exact⟨d,hd.mono (fun _ h=>h) fun _ _ _=>trivial⟩
 ·intro hi
  refine h.max (fun w=>Inf (nxT rows) 0 S w) (fun w hw k T hT=> ?_) (fun w hw=>Inf.lt hl hw) u hi
  have hk:k=0:=by have:=(gE.1 hT).1;simpa using this
  subst hk
  have hTe:T=List.replicate n true:=by simpa using hT.symm
  subst hTe
  obtain⟨d,hd⟩:=Inf.none (P:=fun w=>Inf (nxT rows) 0 S w) (fun _ h=>h) hw
  rw[e]
  exact⟨d,hd.mono (fun _ h=>h) fun w hw _=>by rw[inB,List.getElem?_replicate,if_pos (Inf.lt hl hw)]⟩
end
end Go.Proofs.Ytglkhoamnmiolaa.R
