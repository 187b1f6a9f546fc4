/- - -/
import Derived.Test.YtglkhoamnmiolaaTc
set_option linter.all false
namespace Go.Proofs.Ytglkhoamnmiolaa.R
open Go Go.Proofs.Ytglkhoamnmiolaa.Vm
def nxL(rows:List (Bool×List Int))(x:Nat):List Nat:=(rows.getD x (false,[])).2.map Int.toNat
theorem K0v{n:Nat}{rows:List (Bool×List Int)}(hT:Table n rows): ∀x,∀y∈nxL rows x,y<n:=fun x y hy=>by
 obtain⟨z,h1,h2⟩:=List.mem_map.1 hy
 rw[lG]at h1
 cases e:rows[x]? with
 |none=>rw[e]at h1;cases h1
 |some r=>
  rw[e]at h1
  have:=hT.2.1 r (List.mem_of_getElem? e) z h1
  omega
theorem k1I{rows:List (Bool×List Int)}{x:Nat}{r:Bool×List Int}(h:rows[x]? =some r):nxL rows x=r.2.map Int.toNat:=by simp[nxL,lG,h]
theorem Y0h: ∀(l:List Nat) (x:Nat),x∈l->x<=l.sum
 |y::l,x,h=>by
  rw[List.sum_cons]
  rcases mC.1 h with e |e
  ·omega
  ·have:=Y0h l x e;omega
theorem w0A{n:Nat}{rows:List (Bool×List Int)}(hT:Table n rows){x:Nat}{r:Bool×List Int}(h:rows[x]? =some r):r.2.length<=1000000:=
 nT (Y0h _ _ (List.mem_map.2 ⟨r,List.mem_of_getElem? h,rfl⟩)) hT.2.2
structure TB (n:Nat) (σ:TS):Prop where
 c:σ.c+rest n σ<=n
 f:σ.f<=σ.c
 st:σ.st.length<=σ.c
 lt: ∀x∈σ.st,x<n
theorem TB.on{n:Nat}{σ σ':TS}(h:TB n σ)(k:TNum n σ σ'):TB n σ':=⟨k.c h.c,by have:=k.f;have:=h.f;omega,k.st h.st,k.lt h.lt⟩
theorem Y0i(a b:Nat):(if(b:Int)<(a:Int)then(b:Int)else(a:Int))=((min a b:Nat):Int):=by
 split<;>omega
section
variable{M:Mach}{H0:Heap}{b jc jn jl jo n:Nat}{gc:C}{bb:Bool}{rows:List (Bool×List Int)}{F:Nat->Prop}
variable(I:TIds M.lim b jc jn jl jo)(hF: ∀i,F i->i<b)(hg:UC H0 F (uLs bb rows) [gc])(hT:Table n rows)(hn:n<=1000000)
include I hF hg hT hn
def VisRun(M:Mach)(H0:Heap)(b jc jn jl jo n:Nat)(gc:C)(rec:TS->Nat->Option TS):Prop:=
 ∀(σ σ':TS) (v:Nat) (H:Heap) (sc:C),rec σ v=some σ'->σ.num v=0->v<n->TB n σ->FrB b H0 H->TSR H b jc jn jl jo n gc sc σ->
  ∃H' sc' x,f109 M (.ptr jc 0) (v:Int) H=some (x,H')/\FrB b H0 H'/\TSR H' b jc jn jl jo n gc sc' σ'/\TNum n σ σ'
theorem j1J{rec:TS->Nat->Option TS}(hrec:VisRun M H0 b jc jn jl jo n gc rec){v:Nat}(hv:v<n){b0:Bool}{l:List Int}{c39:C}(h39:UC H0 F (uIs b0 l) [c39])(hl: ∀y∈l,0<=y/\y<(n:Int))(hll:l.length<=1000000):
  ∀(d i:Nat) (σ σ2 σ':TS) (H:Heap) (sc:C),i+d=l.length->visL rec v ((l.drop i).map Int.toNat) σ=some σ2->
  (if σ2.low v<σ2.num v then some σ2 else if v∈σ2.st then some (σ2.close v)else none)=some σ'->TB n σ->FrB b H0 H->TSR H b jc jn jl jo n gc sc σ->
  ∃H' sc' x,f109_1 M (.ptr jc 0) (v:Int) c39 (l.length:Int) (i:Int) H=some (x,H')/\FrB b H0 H'/\TSR H' b jc jn jl jo n gc sc' σ':=by
 intro d
 induction d with
 |zero=>
  intro i σ σ2 σ' H sc hi h1 h2 tb f h
  rw[dL (by omega)]at h1
  simp only[List.map_nil,visL]at h1
  cases h1
  obtain⟨l0,l1,l2,l3,l4,l5,l6⟩:=h.ldc
  have hlt:((σ.low v:Int)<(σ.num v:Int))↔σ.low v<σ.num v:=Int.ofNat_lt
  rw[J0L]
  simp only[show¬((i:Int)<(l.length:Int)) by omega,dF,bF,iF,withP_ptr,Nat.zero_add,l1,l2,oS,q0g hv,h.ldl hv,h.ldn hv,asI_int]
  by_cases hc:σ.low v<σ.num v
  ·rw[if_pos hc]at h2
   cases h2
   simp only[hlt.2 hc,dY,iT]
   exact⟨H,sc,_,rfl,f,h⟩
  ·rw[if_neg hc]at h2
   have hc': ¬((σ.low v:Int)<(σ.num v:Int)):=fun e=>hc (hlt.1 e)
   simp only[hc',dF,bF,iF]
   split at h2
   ·rename_i hm
    cases h2
    have hcn:σ.c<=n:=by have:=tb.c;omega
    obtain⟨H',sc',z1,z2,z3⟩:=Q1a I (M:=M) (H0:=H0) (n:=n) (gc:=gc) (v:=v) σ.st H sc σ rfl hm tb.lt (by have:=tb.st;omega) (by have:=tb.f;omega) f h
    exact⟨H',sc',_,z1,z2,z3⟩
   ·cases h2
 |succ d ih=>
  intro i σ σ2 σ' H sc hi h1 h2 tb f h
  have hlt:i<l.length:=by omega
  have hgi:l[i]? =some l[i]:=q0a hlt
  obtain⟨w0,w1⟩:=hl _ (lM hlt)
  obtain⟨w,hw⟩:=iZ w0
  have hwn:w<n:=by omega
  obtain⟨i2,o2,k1,k2,k3⟩:=rdN (J0F h39 f hF) hgi
  rw[hw]at k3
  obtain⟨l0,l1,l2,l3,l4,l5,l6⟩:=h.ldc
  rw[List.drop_eq_getElem_cons hlt,hw]at h1
  simp only[List.map_cons,iN,visL]at h1
  have eI:IntKind.wrap .i64 ((i:Int)+1)=((i+1:Nat):Int):=q0b (by omega)
  rw[J0L]
  simp only[show((i:Int)<(l.length:Int)) by omega,dY,iT,k1,k3,asI_int,withP_ptr,Nat.zero_add,l1,oS,q0g hwn,h.ldn hwn]
  split at h1
  ·rename_i h0
   obtain⟨σ1,g1,g2⟩:=oB.1 h1
   obtain⟨H1,sc1,x,z1,z2,z3,z4⟩:=hrec σ σ1 w H sc g1 h0 hwn tb f h
   obtain⟨H2,y1,y2,y3,y4⟩:=z3.setLow I hv (min (σ1.low v) (σ1.low w))
   obtain⟨m0,m1,m2,m3,m4,m5,m6⟩:=z3.ldc
   have f2:FrB b H0 H2:=⟨by rw[<-y4];exact z2.next,fun i hi=>by rw[y3 i hi];exact z2.old i hi⟩
   obtain⟨H',sc',x',r1,r2,r3⟩:=ih (i+1) _ σ2 σ' H2 sc1 (by omega) g2 h2 ((tb.on z4).on (TNum.setLow n σ1 _ _)) f2 y2
   refine⟨H',sc',x', ?_,r2,r3⟩
   have e0:((σ.num w:Int)=0):=by rw[h0];rfl
   simp only[e0,dY,iT,z1,oS,m2,q0g hv,q0g hwn,z3.ldl hv,z3.ldl hwn,asI_int,Y0i,y1,w0D,eI,r1]
  ·rename_i h0
   have e0: ¬((σ.num w:Int)=0):=by omega
   simp only[e0,dF,bF,iF,l3,oS,q0g hwn,h.ldo hwn,asI_int]
   split at h1
   ·rename_i h3
    obtain⟨H2,y1,y2,y3,y4⟩:=h.setLow I hv (min (σ.low v) (σ.num w))
    have f2:FrB b H0 H2:=⟨by rw[<-y4];exact f.next,fun i hi=>by rw[y3 i hi];exact f.old i hi⟩
    obtain⟨H',sc',x',r1,r2,r3⟩:=ih (i+1) _ σ2 σ' H2 sc (by omega) h1 h2 (tb.on (TNum.setLow n σ _ _)) f2 y2
    refine⟨H',sc',x', ?_,r2,r3⟩
    simp only[h3,dY,iT,l1,l2,oS,q0g hv,q0g hwn,h.ldl hv,h.ldn hwn,asI_int,Y0i,y1,J0M,w0D,eI,r1]
   ·rename_i h3
    obtain⟨H',sc',x',r1,r2,r3⟩:=ih (i+1) _ σ2 σ' H sc (by omega) h1 h2 tb f h
    refine⟨H',sc',x', ?_,r2,r3⟩
    simp only[h3,dF,bF,iF,J0M,w0D,eI,r1]
theorem Y0j: ∀k:Nat,VisRun M H0 b jc jn jl jo n gc (vis (nxL rows) k)
 | 0=>fun σ σ' v H sc h=>by simp[vis]at h
 |k+1=>fun σ σ' v H sc h h0 hv tb f hs=>by
  have num:=(K0a (K0v hT) (k+1) σ v σ' h0 hv h).1
  simp only[vis]at h
  obtain⟨σ2,g1,g2⟩:=oB.1 h
  have hvr:v<rows.length:=by rw[hT.1];exact hv
  have hr:rows[v]? =some rows[v]:=q0a hvr
  have hcn:σ.c<=n:=by have:=tb.c;omega
  obtain⟨H1,sc1,c39,z1,z2,z3,z4⟩:=q1H hs I hv hF f hg hr (by omega) (by have:=tb.st;omega)
  have hrl:rest n (σ.enter v)<rest n σ:=J0q (fun x hx=>by
   show(if x=v then _ else σ.num x)≠0
   split
   ·omega
   ·exact hx) hv h0 (by show(if v=v then _ else _)≠0;rw[if_pos rfl];omega)
  have tb1:TB n (σ.enter v):=by
   refine⟨?_, ?_, ?_, ?_⟩
   ·show σ.c+1+_<=n;have:=tb.c;omega
   ·show σ.f<=σ.c+1;have:=tb.f;omega
   ·show(v::σ.st).length<=σ.c+1;have:=tb.st;simp only[List.length_cons];omega
   ·intro x hx
    rcases mC.1 (show x∈v::σ.st from hx)with g |g
    ·rw[g];exact hv
    ·exact tb.lt x g
  rw[k1I hr]at g1
  have hrow:=hT.2.1 _ (List.mem_of_getElem? hr)
  obtain⟨H',sc',x,r1,r2,r3⟩:=j1J I hF hg hT hn (Y0j k) hv z4 hrow (w0A hT hr) rows[v].2.length 0 (σ.enter v) σ2 σ' H1 sc1 (by omega) (by rw[List.drop_zero];exact g1) g2 tb1 z3 z2
  exact⟨H',sc',x,by rw[z1];exact r1,r2,r3,num⟩
theorem w1p{k:Nat}: ∀(d i:Nat) (σ σ':TS) (H:Heap) (sc:C),i+d=n->visAll (nxL rows) k ((List.range n).drop i) σ=some σ'->TB n σ->FrB b H0 H->TSR H b jc jn jl jo n gc sc σ->
  ∃H' sc',f93_1 M (.ptr jc 0) (n:Int) (i:Int) H=some (.c (.slice jo 0 n),H')/\FrB b H0 H'/\TSR H' b jc jn jl jo n gc sc' σ':=by
 intro d
 induction d with
 |zero=>
  intro i σ σ' H sc hi h1 tb f h
  rw[dL (by rw[List.length_range];omega)]at h1
  simp only[visAll]at h1
  cases h1
  obtain⟨l0,l1,l2,l3,l4,l5,l6⟩:=h.ldc
  rw[W0r]
  simp only[show¬((i:Int)<(n:Int)) by omega,dF,bF,iF,withP_ptr,Nat.zero_add,l3,oS]
  exact⟨H,sc,rfl,f,h⟩
 |succ d ih=>
  intro i σ σ' H sc hi h1 tb f h
  have hin:i<n:=by omega
  have eI:IntKind.wrap .i64 ((i:Int)+1)=((i+1:Nat):Int):=q0b (by omega)
  obtain⟨l0,l1,l2,l3,l4,l5,l6⟩:=h.ldc
  rw[List.drop_eq_getElem_cons (by rw[List.length_range];exact hin),List.getElem_range]at h1
  simp only[visAll]at h1
  rw[W0r]
  simp only[show((i:Int)<(n:Int)) by omega,dY,iT,withP_ptr,Nat.zero_add,l1,oS,q0g hin,h.ldn hin,asI_int]
  split at h1
  ·rename_i h0
   obtain⟨σ1,g1,g2⟩:=oB.1 h1
   obtain⟨H1,sc1,x,z1,z2,z3,z4⟩:=Y0j I hF hg hT hn k σ σ1 i H sc g1 h0 hin tb f h
   obtain⟨H',sc',r1,r2,r3⟩:=ih (i+1) _ σ' H1 sc1 (by omega) g2 (tb.on z4) z2 z3
   refine⟨H',sc', ?_,r2,r3⟩
   have e0:((σ.num i:Int)=0):=by rw[h0];rfl
   simp only[e0,dY,iT,z1,oS,W0s,eI,r1]
  ·rename_i h0
   have e0: ¬((σ.num i:Int)=0):=by omega
   obtain⟨H',sc',r1,r2,r3⟩:=ih (i+1) _ σ' H sc (by omega) h1 tb f h
   refine⟨H',sc', ?_,r2,r3⟩
   simp only[e0,dF,bF,iF,W0s,eI,r1]
end
end Go.Proofs.Ytglkhoamnmiolaa.R
