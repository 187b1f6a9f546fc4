/- - -/
import Derived.Test.YtglkhoamnmiolaaKh
import Derived.Test.YtglkhoamnmiolaaWe
set_option linter.all false
namespace Go.Proofs.Ytglkhoamnmiolaa.R
open Go Go.Proofs.Ytglkhoamnmiolaa.Vm
theorem k1j{M:YM}{N:Nat}{rows:List (Bool×List Int)}(hn:N<=1000000)(hT:Table N rows)(hrev:HasRev M){b b2:Bool}{ls:List (List Bool)}(hs: ∀l∈ls,l.length=N)(hm:ls.length<=1000000):
  ∃P,y44 M (uLs b rows) (.sl b2 (ls.map setU))=some (.sl ⟨true,1,uBs P⟩)/\P.length=N/\ ∀u,inB P u↔Inf (nxT rows) ls.length (fun k=>inB (ls.getD k [])) u:=by
 cases ls with
 |nil=>
  obtain⟨rows',P,h1,h2,h3⟩:=Q1F (M:=M) hn hT hrev (b:=b) (b2:=b2)
  exact⟨P,h2,h3.len,fun u=>h3.inf0 hT.1 h1 u _⟩
 |cons x ls=>
  have hm1:((x::ls).map fun l=>(true,l)).map (·.2)=x::ls:=by simp[Function.comp_def]
  obtain⟨rows',P,h1,h2,h3⟩:=Q1E (M:=M) hn hT hrev (b:=b) (b2:=b2) (ss:=(x::ls).map fun l=>(true,l)) (fun y hy=>by
   obtain⟨l,hl,rfl⟩:=List.mem_map.1 hy
   exact hs l hl) (by simpa using hm) (by simp)
  rw[hm1]at h3
  refine⟨P, ?_,h3.len,fun u=>h3.inf hT.1 h1 (by simp) u⟩
  rw[<-h2]
  unfold uSs
  rw[List.map_map]
  rfl
theorem j1D{k m:Nat}(hm:0<m):(k+1) % m=if k % m+1=m then 0 else k % m+1:=by
 have h:=Nat.div_add_mod k m
 have hr:=Nat.mod_lt k hm
 rw[show k+1=m*(k / m)+(k % m+1) by omega,Nat.mul_add_mod]
 split
 ·rename_i e;rw[e,Nat.mod_self]
 ·exact Nat.mod_eq_of_lt (by omega)
def posN(w0:List Int)(n:Nat):Nat->Nat
 | 0=>0
 |i+1=>toP w0 n (posN w0 n i)
theorem Q0z{w0 w1:List Int}{n:Nat}(hn:n=w0.length+w1.length)(h1:0<w1.length): ∀i,posN w0 n i<n/\if i<w0.length then posN w0 n i=i else w0.length<=posN w0 n i/\posN w0 n i - w0.length=(i - w0.length) % w1.length
 | 0=>by
  refine⟨by simp[posN];omega, ?_⟩
  split
  ·rfl
  ·rename_i h
   have h0:w0.length=0:=by omega
   simp[posN,h0]
 |i+1=>by
  obtain⟨g1,g2⟩:=Q0z hn h1 i
  simp only[posN,toP]
  by_cases hi:i<w0.length
  ·rw[if_pos hi]at g2
   rw[g2]at g1⊢
   by_cases hi1:i+1<w0.length
   ·rw[if_neg (by omega),if_pos hi1]
    exact⟨by omega,rfl⟩
   ·rw[if_neg (by omega),if_neg hi1]
    refine⟨by omega,by omega, ?_⟩
    rw[show i+1 - w0.length=0 by omega];simp
  ·rw[if_neg hi]at g2
   have hm:=j1D (k:=i - w0.length) h1
   rw[show i - w0.length+1=i+1 - w0.length by omega]at hm
   have hr:=Nat.mod_lt (i - w0.length) h1
   by_cases e:posN w0 n i+1=n
   ·rw[if_pos e,if_neg (by omega)]
    rw[if_pos (by omega)]at hm
    exact⟨by omega,nR _,by omega⟩
   ·rw[if_neg e,if_neg (by omega)]
    rw[if_neg (by omega)]at hm
    exact⟨by omega,by omega,by omega⟩
theorem K0L{w0 w1:List Int}{n:Nat}(hn:n=w0.length+w1.length)(h1:0<w1.length)(i:Nat):letr w0 w1 (posN w0 n i)=letr w0 w1 i:=by
 obtain⟨g1,g2⟩:=Q0z hn h1 i
 by_cases hi:i<w0.length
 ·rw[if_pos hi]at g2;rw[g2]
 ·rw[if_neg hi]at g2
  unfold letr
  rw[if_neg (by omega),if_neg hi,g2.2,Nat.mod_mod]
def auL(l:List Int)(es:List E4)(xs:List (Bool×List Int)):Au:=
 ⟨fun s=>(s:Int)∈l,fun s c t=> ∃e∈es,e.f=(s:Int)/\e.t=(t:Int)/\rdI e (c:Int)=true,xs.length,fun k s=>(s:Int)∈(xs.getD k (false,[])).2⟩
def wrd(w0 w1:List Int)(i:Nat):Nat:=(letr w0 w1 i).toNat
theorem z0i{n s p:Nat}(hp:p<n):(s*n+p) / n=s/\(s*n+p) % n=p:=by
 have h0:0<n:=by omega
 rw[Nat.mul_comm s n,Nat.mul_add_div h0,Nat.mul_add_mod,Nat.div_eq_of_lt hp,Nat.mod_eq_of_lt hp]
 exact⟨rfl,rfl⟩
theorem Z0l(ps:List (Int×Int))(n:Nat):(ps.filter fun p=>decide (0<=p.2/\p.2<((n+1:Nat):Int))).length=(ps.filter fun p=>decide (0<=p.2/\p.2<(n:Int))).length+(ps.filter fun p=>decide (p.2=(n:Int))).length:=by
 induction ps with
 |nil=>rfl
 |cons p ps ih=>
  simp only[List.filter_cons]
  by_cases h1:0<=p.2/\p.2<(n:Int)
  ·have h2:0<=p.2/\p.2<((n+1:Nat):Int):=by omega
   have h3: ¬p.2=(n:Int):=by omega
   simp only[h1,h2,h3,and_self,dY,dF,iT,bF,iF,List.length_cons];omega
  ·by_cases h3:p.2=(n:Int)
   ·have h2:0<=p.2/\p.2<((n+1:Nat):Int):=by omega
    rw[if_pos (by simpa using h2),if_neg (by simpa using h1),if_pos (by simpa using h3)]
    simp only[List.length_cons];omega
   ·have h2: ¬(0<=p.2/\p.2<((n+1:Nat):Int)):=by omega
    rw[if_neg (by simpa using h2),if_neg (by simpa using h1),if_neg (by simpa using h3)]
    exact ih
theorem X0W(ps:List (Int×Int)): ∀n:Nat,((tabU (tabD n ps)).map fun r=>r.2.length).sum=(ps.filter fun p=>decide (0<=p.2/\p.2<(n:Int))).length
 | 0=>by
  have:ps.filter (fun p=>decide (0<=p.2/\p.2<((0:Nat):Int)))=[]:=List.filter_eq_nil_iff.2 fun p _=>by simp
  rw[this];rfl
 |n+1=>by
  have e:tabD (n+1) ps=tabD n ps++[(ps.filter fun p=>decide (p.2=(n:Int))).map (·.1)]:=by simp[tabD,List.range_succ]
  rw[e,tabU,List.map_append,List.map_append,List.sum_append,Z0l]
  have:=X0W ps n
  rw[tabU]at this
  rw[this]
  simp
theorem X0X{n:Nat}{ps:List (Int×Int)}(h1: ∀p∈ps,0<=p.1/\p.1<(n:Int))(h2:ps.length<=1000000):Table n (tabU (tabD n ps)):=by
 refine⟨by simp[tabU,q0X],fun r hr y hy=> ?_, ?_⟩
 ·obtain⟨l,hl,rfl⟩:=List.mem_map.1 hr
  obtain⟨j,_,rfl⟩:=List.mem_map.1 hl
  obtain⟨p,hp,rfl⟩:=List.mem_map.1 hy
  exact h1 p (List.mem_filter.1 hp).1
 ·rw[X0W]
  exact nT (List.length_filter_le _ _) h2
theorem w1L{n:Nat}{ps:List (Int×Int)}{u v:Nat}:nxT (tabU (tabD n ps)) u v↔u<n/\((v:Int),(u:Int))∈ps:=by
 unfold nxT tabU
 rw[lG,List.getElem?_map]
 by_cases hu:u<n
 ·rw[j0O hu]
  simp only[Option.map_some,Option.getD_some,List.mem_map,List.mem_filter,dE]
  constructor
  ·rintro⟨⟨x,y⟩,⟨g1,g2⟩,g3⟩
   simp only at g2 g3
   subst g2 g3
   exact⟨hu,g1⟩
  ·rintro⟨_,g⟩;exact⟨_,⟨g,rfl⟩,rfl⟩
 ·rw[List.getElem?_eq_none (by rw[q0X];omega)]
  simp[hu]
section
variable{lim:Nat}{M:YM}(hM:CallsY lim M.ext)(hrev:HasRev M){H0:Heap}{F:Nat->Prop}{b a:Nat}{b1 b2 b3 b4 b5:Bool}{l:List Int}{es:List E4}{xs:List (Bool×List Int)}{w0 w1:List Int}{c1 c2 c3 d0 d1:C}
variable(A:AW lim H0 F b a l es xs w0 w1 b1 b2 b3 b4 b5 c1 c2 c3 d0 d1){n:Nat}(hn:n=w0.length+w1.length)
include A hn
theorem z1C{u v:Int}:(v,u)∈psTo es w0 w1 n n↔ ∃p,p<n/\ ∃e∈es,rdI e (letr w0 w1 p)=true/\v=e.t*n+toP w0 n p/\u=e.f*n+p:=by
 simp only[psTo,List.mem_flatMap,List.mem_range,psP,List.mem_map,List.mem_filter,psE,Prod.mk.injEq]
 constructor
 ·rintro⟨p,hp,e,⟨he,hr⟩,h1,h2⟩;exact⟨p,hp,e,he,hr,h1.symm,h2.symm⟩
 ·rintro⟨p,hp,e,he,hr,h1,h2⟩;exact⟨p,hp,e,⟨he,hr⟩,h1.symm,h2.symm⟩
theorem z1D{p:Nat}(hp:p<n):toP w0 n p<n:=by
 have:=A.wp
 unfold toP;split<;>omega
theorem J0o{u v:Nat}:nxT (tabU (tabD (a*n) (psTo es w0 w1 n n))) u v↔ ∃s p t,p<n/\u=s*n+p/\v=t*n+toP w0 n p/\(auL l es xs).step s (letr w0 w1 p).toNat t:=by
 have let0: ∀p,p<n->((letr w0 w1 p).toNat:Int)=letr w0 w1 p:=fun p hp=>by
  have:=Y0l (k:=p) A.wp A.wl
  simp only[btw,dE]at this
  omega
 rw[w1L,z1C A hn]
 constructor
 ·rintro⟨_,p,hp,e,he,hr,h1,h2⟩
  obtain⟨k,hk⟩:=List.mem_iff_getElem?.1 he
  obtain⟨⟨s,hs1,hs2⟩,⟨t,ht1,ht2⟩,_⟩:=J0u A.ok hk
  refine⟨s,p,t,hp, ?_, ?_,e,he,hs1,ht1,by rw[let0 p hp];exact hr⟩
  ·rw[hs1]at h2
   have:(u:Int)=((s*n+p:Nat):Int):=by rw[h2];simp
   omega
  ·rw[ht1]at h1
   have:(v:Int)=((t*n+toP w0 n p:Nat):Int):=by rw[h1];simp
   omega
 ·rintro⟨s,p,t,hp,h1,h2,e,he,hs1,ht1,hr⟩
  rw[let0 p hp]at hr
  obtain⟨k,hk⟩:=List.mem_iff_getElem?.1 he
  obtain⟨⟨s',hs1',hs2⟩,_⟩:=J0u A.ok hk
  have:s'=s:=by omega
  subst this
  exact⟨by rw[h1];exact k0s hs2 hp,p,hp,e,he,hr,by rw[ht1,h2];simp,by rw[hs1,h1];simp⟩
theorem X0Y{ls:List (List Bool)}(hls:ls.length=xs.length)(hmk: ∀(k':Nat) (l':List Bool) (x:Bool×List Int),ls[k']? =some l'->xs[k']? =some x->Marks n x l')(s:Nat):
  Inf (nxT (tabU (tabD (a*n) (psTo es w0 w1 n n)))) ls.length (fun k=>inB (ls.getD k [])) (s*n)↔
   ∃ρ:Nat->Nat,ρ 0=s/\(∀i,(auL l es xs).step (ρ i) (wrd w0 w1 i) (ρ (i+1)))/\ ∀k,k<(auL l es xs).m-> ∀N,∃i,N<=i/\(auL l es xs).acc k (ρ i):=by
 have hn0:0<n:=by have:=A.wp;omega
 have hmark: ∀k,k<xs.length-> ∀j,inB (ls.getD k []) j↔((j / n:Nat):Int)∈(xs.getD k (false,[])).2:=fun k hk j=>by
  have e1:ls[k]? =some (ls.getD k []):=by rw[lG,List.getElem?_eq_getElem (by omega)];rfl
  have e2:xs[k]? =some (xs.getD k (false,[])):=by rw[lG,List.getElem?_eq_getElem hk];rfl
  rw[hmk k _ _ e1 e2 j]
  constructor
  ·rintro⟨s',h1,q,h2,rfl⟩;rw[(z0i h2).1];exact h1
  ·intro h
   exact⟨j / n,h,j % n,Nat.mod_lt _ hn0,(Nat.div_add_mod' j n).symm⟩
 constructor
 ·rintro⟨f,f0,f1,f2⟩
  have st: ∀i,f (i+1) % n=toP w0 n (f i % n)/\(auL l es xs).step (f i / n) (letr w0 w1 (f i % n)).toNat (f (i+1) / n):=fun i=>by
   obtain⟨s',p,t,h1,h2,h3,h4⟩:=(J0o A hn).1 (f1 i)
   obtain⟨d1,d2⟩:=z0i (s:=s') h1
   obtain⟨d3,d4⟩:=z0i (s:=t) (z1D A hn h1)
   rw[h2,h3,d1,d2,d3,d4]
   exact⟨rfl,h4⟩
  have pos: ∀i,f i % n=posN w0 n i:=by
   intro i
   induction i with
   |zero=>rw[f0];simp[posN]
   |succ i ih=>rw[(st i).1,ih];rfl
  refine⟨fun i=>f i / n,by show f 0 / n=s;rw[f0,Nat.mul_div_cancel _ hn0],fun i=> ?_,fun k hk N=> ?_⟩
  ·have:=(st i).2
   rw[pos i,K0L hn A.wp]at this
   exact this
  ·obtain⟨i,i1,i2⟩:=f2 k (by rw[hls];exact hk) N
   exact⟨i,i1,(hmark k hk _).1 i2⟩
 ·rintro⟨ρ,r0,r1,r2⟩
  refine⟨fun i=>ρ i*n+posN w0 n i,by simp[r0,posN],fun i=>(J0o A hn).2 ⟨ρ i,posN w0 n i,ρ (i+1),(Q0z hn A.wp i).1,rfl,rfl, ?_⟩,fun k hk N=> ?_⟩
  ·rw[K0L hn A.wp];exact r1 i
  ·rw[hls]at hk
   obtain⟨i,i1,i2⟩:=r2 k hk N
   refine⟨i,i1,(hmark k hk _).2 ?_⟩
   show(((ρ i*n+posN w0 n i) / n:Nat):Int)∈_
   rw[(z0i (Q0z hn A.wp i).1).1];exact i2
theorem X0Z{H:Heap}(f:FrB b H0 H){G:Nat->Prop}{P:List Bool}{v:C}(hP:P.length=a*n)(hv:UC H G (.sl true (uBs P)) [v]):
  ∀(d i:Nat),i+d=l.length-> ∃r:Bool,f16_8 (MH lim) (a:Int) c1 c2 c3 (n:Int) v (i:Int) H=some (.c (.bool r),H)/\(r=true↔ ∃s:Nat,(s:Int)∈l.drop i/\inB P (s*n)):=by
 have ha:=A.ha;have hwn:=A.wn
 have hn0:0<n:=by have:=A.wp;omega
 intro d
 induction d with
 |zero=>
  intro i hi
  refine⟨false, ?_, ?_⟩
  ·rw[K0r]
   simp only[q1P (k0X A.u1 f A.hF),oS,show¬((i:Int)<((l.length:Nat):Int)) by omega,dF,bF,iF]
  ·rw[dL (by omega)];simp
 |succ d ih=>
  intro i hi
  have hlt:i<l.length:=by omega
  obtain⟨y0,y1⟩:=A.hls.2 l[i] (lM hlt)
  obtain⟨s,hs⟩:=iZ y0
  have hget:l[i]? =some (s:Int):=by rw[q0a hlt,hs]
  rw[hs]at y1
  have hsa:s<a:=by omega
  obtain⟨i2,o2,k1,k2,k3⟩:=rdN (k0X A.u1 f A.hF) hget
  have hbn:s*n<=300*60:=Nat.mul_le_mul (by omega) (by omega)
  have e1:IntKind.wrap .i64 ((s:Int)*(n:Int))=((s*n:Nat):Int):=by rw[<-Int.natCast_mul,q0h (by omega) (by omega)]
  have hnode:=k0s hsa hn0
  rw[Nat.add_zero]at hnode
  obtain⟨p,hp⟩: ∃p,P[s*n]? =some p:=⟨_,q0a (by omega)⟩
  obtain⟨j,o,z,cs,q1,q2,q3,q4,q5⟩:=hv.elem (k:=s*n) (u:=uB p) (z0A hp)
  have q6:H.ld j o=some (.bool p):=ldX q3 (w0g q5.2)
  have q1':C.elem 1 v ((s*n:Nat):Int)=some (j,o):=q1
  rw[K0r,List.drop_eq_getElem_cons hlt]
  simp only[q1P (k0X A.u1 f A.hF),oS,show((i:Int)<((l.length:Nat):Int)) by omega,dY,iT,k1,k3,asI_int,e1,q1',q6,asB_bool,q0b (show i<=1000000000 by have:=A.hls.1;omega)]
  cases p with
  |true=>
   refine⟨true,by simp,fun _=>⟨s,by rw[hs];simp,hp⟩,fun _=>rfl⟩
  |false=>
   obtain⟨r,h1,h2⟩:=ih (i+1) (by omega)
   refine⟨r,by simp only[bF,iF];exact h1,h2.trans ⟨fun⟨s',g1,g2⟩=>⟨s',by simp only[mC];exact .inr g1,g2⟩,fun⟨s',g1,g2⟩=> ?_⟩⟩
   rcases mC.1 g1 with g |g
   ·have:s'=s:=by omega
    subst this
    rw[inB,hp]at g2;cases g2
   ·exact⟨s',g,g2⟩
end
section
variable{lim:Nat}{M:YM}(hM:CallsY lim M.ext)(hrev:HasRev M){H:Heap}{F:Nat->Prop}{a:Nat}{b1 b2 b3 b4 b5:Bool}{l:List Int}{es:List E4}{xs:List (Bool×List Int)}{w0 w1:List Int}{c1 c2 c3 d0 d1:C}
variable(A:AW lim H F H.next a l es xs w0 w1 b1 b2 b3 b4 b5 c1 c2 c3 d0 d1)
include hM hrev A
theorem k1k: ∃(r:Bool) (H':Heap),f16 (MH lim) (a:Int) c1 c2 c3 d0 d1 H=some (.c (.bool r),H')/\FrX none H F H' F/\(r=true↔Acc (auL l es xs) (wrd w0 w1)):=by
 have ha:=A.ha;have hwn:=A.wn;have hx8:=A.hx;have he:=A.he
 obtain⟨n,hn⟩: ∃n,n=w0.length+w1.length:=⟨_,rfl⟩
 have hN:a*n<=300*60:=Nat.mul_le_mul ha (by omega)
 have t0:=TabO.new H (a*n)
 rw[<-K0M]at t0
 have fr0:FrB H.next H (H.alloc (.cells 1 (List.replicate (a*n) [C.nilSlice]).flatten)):=⟨Nat.le_succ _,fun i hi=>q0k hi⟩
 obtain⟨Hm,g1,g2,g3⟩:=Y0k hM A hn n 0 _ (by omega) fr0 (by simpa[psTo]using t0)
 have hFm: ∀i,F i->i<Hm.next:=fun i hi=>nL (A.hF i hi) g2.next
 obtain⟨H2,G,ls,c',k1,k2,k3,k4,k5,k6,k7,k8,k9⟩:=X0E A hn g2 (tab:= .slice H.next 0 (a*n)) xs.length 0 Hm F [] .nilSlice (by omega) (.refl _) (fun _ h=>h) hFm (fun _ h=> .inl h) .nil rfl (fun l' h=>by cases h) (fun k' l' x e=>by simp at e)
 let F2:Nat->Prop:=fun i=>F i\/(H.next<=i/\i<H2.next)
 have hnx:H.next<=H2.next:=nT g2.next k2.next
 have hF2: ∀i,F2 i->i<H2.next:=fun i hi=>hi.elim (fun h=>nL (A.hF i h) hnx) fun h=>h.2
 have hGF: ∀i,G i->F2 i:=fun i hi=>(k5 i hi).imp id fun h=>⟨nT g2.next h,k4 i hi⟩
 obtain⟨G2,p1,p2,bb,_,p3⟩:=k6.fin k4
 have us:UC H2 F2 (.sl bb (ls.map setU)) [c']:=p3.mono ⟨fun i hi=>(p2 i hi).elim (hGF i) fun h=> .inr ⟨nT g2.next h.1,h.2⟩,fun _ _=>rfl⟩
 have ut:UC H2 F2 (uLs true (tabU (tabD (a*n) (psTo es w0 w1 n n)))) [.slice H.next 0 (a*n)]:=by
  have:=(g3.grow k2).uc (F:=F2) fun i hi hi2=> .inr ⟨hi,hi2⟩
  rw[q0X]at this
  exact this
 have hps:(psTo es w0 w1 n n).length<=1000000:=by
  have h1:=Q0F es w0 w1 n n
  have:n*es.length<=60*6000:=Nat.mul_le_mul (by omega) he
  omega
 have hT:Table (a*n) (tabU (tabD (a*n) (psTo es w0 w1 n n))):=X0X (fun p hp=>by
  obtain⟨q,hq,e,hem,_,h1,_⟩:=(z1C (u:=p.2) (v:=p.1) A hn).1 hp
  obtain⟨k,hk⟩:=List.mem_iff_getElem?.1 hem
  obtain⟨_,⟨t,ht1,ht2⟩,_⟩:=J0u A.ok hk
  have:=k0s ht2 (z1D A hn hq)
  rw[ht1]at h1
  have h2:p.1=((t*n+toP w0 n q:Nat):Int):=by rw[h1];simp
  omega) hps
 obtain⟨P,q1,q2,q3⟩:=k1j (M:=M) (by omega) hT hrev (b:=true) (b2:=bb) k8 (by omega)
 obtain⟨v,H3,F3,m1,m2,m3⟩:=W0G hM (f:=44) (us:=[uLs true (tabU (tabD (a*n) (psTo es w0 w1 n n))), .sl bb (ls.map setU)]) (vs:=[.c (.slice H.next 0 (a*n)), .c c']) q1 rfl (nT A.hl hnx) hF2 (k1o ⟨rfl,ut⟩ ⟨rfl,us⟩)
 obtain⟨vc,rfl,m4⟩:=m3.one rfl
 have f3:FrB H.next H H3:=(g2.fr k2).fr (w0h m2)
 obtain⟨r,z1,z2⟩:=X0Z A hn f3 q2 m4 l.length 0 (by omega)
 refine⟨r,H3, ?_,⟨f3.next,fun i hi _=>f3.old i hi,fun _ h=>h,fun _ h=> .inl h,fun i hi=>nL (A.hF i hi) f3.next⟩, ?_⟩
 ·have e0:IntKind.wrap .i64 (((w0.length:Nat):Int)+((w1.length:Nat):Int))=(n:Int):=by rw[q0h (by omega) (by omega)];omega
  have e1:IntKind.wrap .i64 ((a:Int)*(n:Int))=((a*n:Nat):Int):=by rw[<-Int.natCast_mul,q0h (by omega) (by omega)]
  rw[w1B]
  simp only[q1P A.v0,q1P A.v1,oS,e0,e1,iN]
  rw[if_pos ⟨by omega,by omega⟩]
  rw[show((0:Nat):Int)=0 from rfl]at g1 k1 z1
  rw[g1,k1,K0p]
  have q44:f44 (MH lim) (.slice H.next 0 (a*n)) c' H2=some (.c vc,H3):=m1
  simp only[k1S (k0X A.u3 (g2.fr k2) A.hF),oS,Int.lt_irrefl,dF,bF,iF,q44,asC_c,z1]
 ·rw[z2,List.drop_zero]
  constructor
  ·rintro⟨s,h1,h2⟩
   obtain⟨ρ,r0,r1,r2⟩:=(X0Y A hn k7 k9 s).1 ((q3 _).1 h2)
   exact⟨ρ,by rw[r0];exact h1,r1,r2⟩
  ·rintro⟨ρ,r0,r1,r2⟩
   exact⟨ρ 0,r0,(q3 _).2 ((X0Y A hn k7 k9 (ρ 0)).2 ⟨ρ,rfl,r1,r2⟩)⟩
end
end Go.Proofs.Ytglkhoamnmiolaa.R
