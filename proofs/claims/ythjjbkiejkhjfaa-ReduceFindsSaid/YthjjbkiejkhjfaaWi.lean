/- - -/
import Derived.Test.YthjjbkiejkhjfaaWd
set_option linter.all false
namespace Go.Proofs.Ythjjbkiejkhjfaa.R
open Go Go.Proofs.Ythjjbkiejkhjfaa.Vm
variable{M:YM}
def lt3(a b:E3):Prop:=a.f<b.f\/(a.f=b.f/\(a.t<b.t\/(a.t=b.t/\a.a<b.a)))
theorem J0p(a b:E3):cmp3 a b<0↔lt3 a b:=by
 simp only[cmp3,firstErr,cmpN,lt3]
 repeat' split
 all_goals omega
theorem J1E(a b:E3):cmp3 a b=0↔(a.f=b.f/\a.t=b.t/\a.a=b.a):=by
 simp only[cmp3,firstErr,cmpN]
 repeat' split
 all_goals omega
theorem w0T{a b c:E3}(h:lt3 a b)(k:lt3 b c):lt3 a c:=by
 simp only[lt3]at*
 omega
theorem w0U{n:Int}: ∀{es:List E3} {p:Option E3},edgesOK n p es=true->(∀q,p=some q-> ∀e∈es,lt3 q e)/\es.Pairwise lt3
 | [],p,_=>⟨fun _ _ e h=>(by cases h), .nil⟩
 |e::es,p,h=>by
  simp only[edgesOK,bA]at h
  obtain⟨i1,i2⟩:=w0U h.2
  refine⟨fun q hq x hx=> ?_, .cons (i1 e rfl) i2⟩
  subst hq
  have h0:lt3 q e:=by
   have:=h.1.2
   simp only[Option.any_some,bN,dN]at this
   exact(J0p q e).1 (by omega)
  rcases mC.1 hx with rfl |hx
  ·exact h0
  ·exact w0T h0 (i1 e rfl x hx)
theorem k0o{es:List E3}(h:es.Pairwise lt3){i j:Nat}{a b:E3}(hij:i<j)(ha:es[i]? =some a)(hb:es[j]? =some b):lt3 a b:=by
 obtain⟨h1,rfl⟩:=gE.1 ha
 obtain⟨h2,rfl⟩:=gE.1 hb
 exact List.pairwise_iff_getElem.1 h i j h1 h2 hij
def hasS(es:List E3)(f a t:Int):Bool:=es.any fun e=>decide (e.f=f)&&(decide (e.a=a)&&decide (e.t=t))
theorem hasS_iff{es:List E3}{f a t:Int}:hasS es f a t=true↔ ∃e∈es,e.f=f/\e.a=a/\e.t=t:=by
 simp[hasS,List.any_eq_true]
theorem k1W(x:Nat)(h:x<=1000000000):IntKind.wrap .i64 (shI .shr .u64 (IntKind.wrap .u64 (IntKind.wrap .i64 (x:Int))) 1)=((x / 2:Nat):Int):=by
 have h1:IntKind.wrap .i64 (x:Int)=(x:Int):=z0s (by omega) (by omega)
 have h2:IntKind.wrap .u64 (x:Int)=(x:Int):=by
  unfold IntKind.wrap
  simp[IntKind.bits,IntKind.signed]
  omega
 have h3:shI .shr .u64 (x:Int) 1=((x / 2:Nat):Int):=by
  unfold shI
  simp only[show((1:Int)).toNat=1 from rfl,show IntKind.bits .u64=64 from rfl,Nat.min_eq_left (show 1<=64 by omega)]
  rw[Int.fdiv_eq_ediv_of_nonneg _ (by decide)]
  simp
 rw[h1,h2,h3]
 exact z0s (by omega) (by omega)
section
variable{N:Nat}{n:Int}{b1 b2 b3:Bool}{l:List Int}{es:List E3}{u1:U}
theorem W0H(a b:E3):ycall M 78 ([]++[.st [.c (.int .i64 a.f), .c (.int .i64 a.t), .c (.int .i64 a.a)], .st [.c (.int .i64 b.f), .c (.int .i64 b.t), .c (.int .i64 b.a)]]++[])=some (.val (uI (cmp3 a b))):=by
 show y78 M a.f a.t a.a b.f b.t b.a=_
 exact Q1W a b
theorem j1w(he:es.length<=2000)(hs:es.Pairwise lt3)(t:E3): ∀(m i j:Nat),j - i<=m->i<=j->j<=es.length->(∀(k:Nat) e,k<i->es[k]? =some e->lt3 e t)->(∀(k:Nat) e,j<=k->es[k]? =some e-> ¬lt3 e t)->
  ∃r:Int,y111_1 M (uEs b2 es) (.fn 78 [] []) t.f t.t t.a (es.length:Int) (i:Int) (j:Int)=some (.tup [uI r, .c (.bool (hasS es t.f t.a t.t))]):=by
 intro m
 induction m with
 |zero=>
  intro i j hm hij hj h1 h2
  have:i=j:=by omega
  subst this
  have hq: ∀F:Bool->YRs,((if decide ((i:Int)<(es.length:Int))=true then
    (U.idx 3 (uEs b2 es) (i:Int)).bind fun v7=>
    (U.struct v7 0 ks2).bind fun f8=>
    (U.asF (.fn 78 [] [])).bind fun g9=>
    (ycall M g9.1 (g9.2.1++[.st [.c (.int .i64 ((f8 0).i)), .c (.int .i64 ((f8 1).i)), .c (.int .i64 ((f8 2).i))], .st [.c (.int .i64 t.f), .c (.int .i64 t.t), .c (.int .i64 t.a)]]++g9.2.2)).bind fun r10=>
    (Rz.toU r10).bind fun u11=>
    (U.asI .i64 u11).bind fun n12=>some (decide (n12=0))
    else some (decide ((i:Int)<(es.length:Int)))).bind F)=F (hasS es t.f t.a t.t):=by
   intro F
   by_cases hi:i<es.length
   ·obtain⟨f,f0,f1,f2,f3⟩:=q0t es[i]
    have hb:decide (cmp3 es[i] t=0)=hasS es t.f t.a t.t:=by
     rw[Bool.eq_iff_iff,dE,hasS_iff,J1E]
     constructor
     ·rintro⟨k1,k2,k3⟩
      exact⟨es[i],lM hi,k1,k3,k2⟩
     ·rintro⟨e,he',k1,k2,k3⟩
      obtain⟨k,hk⟩:=List.getElem?_of_mem he'
      have heq: ¬lt3 e t:=by simp only[lt3];omega
      have hki: ¬k<i:=fun h=>heq (h1 k e h hk)
      by_cases hk2:k=i
      ·subst hk2
       have:es[k]=e:=by have:=q0b hi;rw[this]at hk;exact Option.some.inj hk
       rw[this];exact⟨k1,k3,k2⟩
      ·have hlt:=k0o hs (show i<k by omega) (q0b hi) hk
       have:lt3 es[i] t:=by simp only[lt3]at hlt⊢;omega
       exact absurd this (h2 i _ (nR _) (q0b hi))
    simp only[show((i:Int)<(es.length:Int)) by omega,dY,iT,q0l (q0b hi),oS,f0,f1,f2,f3,i_uI,U.asF,W0H,toU_val,asI_c,hb]
   ·have hb:hasS es t.f t.a t.t=false:=by
     cases h:hasS es t.f t.a t.t with
     |false=>rfl
     |true=>
      obtain⟨e,he',k1,k2,k3⟩:=hasS_iff.1 h
      obtain⟨k,hk⟩:=List.getElem?_of_mem he'
      have:=h1 k e (by have:=(gE.1 hk).1;omega) hk
      simp only[lt3]at this;omega
    simp only[show¬((i:Int)<(es.length:Int)) by omega,dF,bF,iF,oS,hb]
  rw[K0i]
  simp only[Int.lt_irrefl,dF,bF,iF]
  rw[hq]
  exact⟨i,rfl⟩
 |succ m ih=>
  intro i j hm hij hj h1 h2
  by_cases hlt:i<j
  ·have hmid:(i+j) / 2<es.length:=by omega
   obtain⟨f,f0,f1,f2,f3⟩:=q0t es[(i+j) / 2]
   have hw:=k1W (i+j) (by omega)
   have hij':(i:Int)+(j:Int)=((i+j:Nat):Int):=by omega
   rw[K0i,hij',hw]
   simp only[show((i:Int)<(j:Int)) by omega,dY,iT,q0l (q0b hmid),oS,f0,f1,f2,f3,i_uI,U.asF,W0H,toU_val,asI_c,q0a (show(i+j) / 2<=1000000000 by omega)]
   by_cases hc:cmp3 es[(i+j) / 2] t<0
   ·obtain⟨r,k1⟩:=ih ((i+j) / 2+1) j (by omega) (by omega) hj (fun k e hk hke=>by
     by_cases hk2:k=(i+j) / 2
     ·subst hk2
      rw[q0b hmid]at hke
      cases hke
      exact(J0p _ _).1 hc
     ·exact w0T (k0o hs (show k<(i+j) / 2 by omega) hke (q0b hmid)) ((J0p _ _).1 hc)) h2
    simp only[hc,dY,iT,K0j,k1]
    exact⟨r,rfl⟩
   ·obtain⟨r,k1⟩:=ih i ((i+j) / 2) (by omega) (by omega) (by omega) h1 (fun k e hk hke hlt=>by
     refine hc ((J0p _ _).2 ?_)
     by_cases hk2:k=(i+j) / 2
     ·subst hk2
      rw[q0b hmid]at hke
      cases hke
      exact hlt
     ·exact w0T (k0o hs (show(i+j) / 2<k by omega) (q0b hmid) hke) hlt)
    simp only[hc,dF,bF,iF,K0j,k1]
    exact⟨r,rfl⟩
  ·exact ih i j (by omega) hij hj h1 h2
theorem j1x(he:es.length<=2000)(hs:es.Pairwise lt3){f t a:Int}:y108 M (openU N u1 b2 es) f t a=some (.val (.c (.bool (hasS es f a t)))):=by
 obtain⟨v,v0,v1,v2,v3,v4,v5⟩:=q0f N u1 b2 es
 obtain⟨r,k1⟩:=j1w (M:=M) (b2:=b2) he hs ⟨f,t,a⟩ es.length 0 es.length (by omega) (by omega) (by omega) (fun k e h _=>by omega) (fun k e h hk=>by have:=(gE.1 hk).1;omega)
 rw[show((0:Nat):Int)=0 from rfl]at k1
 rw[Z1D]
 simp only[v0,v3,oS,Z1F,len_uEs,k1,asTup_tup,List.getElem?_cons_zero,List.getElem?_cons_succ,asI_uI,asB_c]
theorem mem_steps{x a:Int}{i:Int}:i∈stepsL es x a↔ ∃(j:Nat) (e:E3),i=(j:Int)/\es[j]? =some e/\e.f=x/\e.a=a:=by
 unfold stepsL
 rw[mem_sel]
 constructor
 ·rintro⟨j,h1,h2,h3⟩
  cases he:es[j]? with
  |none=>rw[he]at h3;cases h3
  |some e=>
   rw[he]at h3
   simp only[Option.any_some,atSt,bA,dE]at h3
   exact⟨j,e,h2,he,h3.1,h3.2⟩
 ·rintro⟨j,e,h1,h2,h3,h4⟩
  exact⟨j,(gE.1 h2).1,h1,by rw[h2];simp[atSt,h3,h4]⟩
theorem w0V{x a:Int}{P:Int->Bool}:((stepsL es x a).any fun i=>P (toOf es i))=es.any fun e=>decide (e.f=x)&&(decide (e.a=a)&&P e.t):=by
 rw[Bool.eq_iff_iff,List.any_eq_true,List.any_eq_true]
 constructor
 ·rintro⟨i,hi,hp⟩
  obtain⟨j,e,rfl,h2,h3,h4⟩:=mem_steps.1 hi
  refine⟨e,List.mem_of_getElem? h2, ?_⟩
  have:toOf es (j:Int)=e.t:=by unfold toOf;rw[iN,h2];rfl
  rw[this]at hp
  simp[h3,h4,hp]
 ·rintro⟨e,he,hp⟩
  simp only[bA,dE]at hp
  obtain⟨j,hj⟩:=List.getElem?_of_mem he
  refine⟨(j:Int),mem_steps.2 ⟨j,e,rfl,hj,hp.1,hp.2.1⟩, ?_⟩
  have:toOf es (j:Int)=e.t:=by unfold toOf;rw[iN,hj];rfl
  rw[this];exact hp.2.2
def mB(es:List E3)(p b q a:Int):Bool:=es.any fun e=>decide (e.f=p)&&(decide (e.a=b)&&hasS es q a e.t)
def tB(es:List E3)(s b a t:Int):Bool:=es.any fun e=>decide (e.f=s)&&(decide (e.a=b)&&hasS es e.t a t)
theorem j1y{p b q a:Int}:mB es p b q a=true↔ ∃v,hasS es p b v=true/\hasS es q a v=true:=by
 unfold mB
 rw[List.any_eq_true]
 constructor
 ·rintro⟨e,he,h⟩
  simp only[bA,dE]at h
  exact⟨e.t,hasS_iff.2 ⟨e,he,h.1,h.2.1,rfl⟩,h.2.2⟩
 ·rintro⟨v,h1,h2⟩
  obtain⟨e,he,k1,k2,rfl⟩:=hasS_iff.1 h1
  exact⟨e,he,by simp[k1,k2,h2]⟩
theorem K1t{s b a t:Int}:tB es s b a t=true↔ ∃v,hasS es s b v=true/\hasS es v a t=true:=by
 unfold tB
 rw[List.any_eq_true]
 constructor
 ·rintro⟨e,he,h⟩
  simp only[bA,dE]at h
  exact⟨e.t,hasS_iff.2 ⟨e,he,h.1,h.2.1,rfl⟩,h.2.2⟩
 ·rintro⟨v,h1,h2⟩
  obtain⟨e,he,k1,k2,rfl⟩:=hasS_iff.1 h1
  exact⟨e,he,by simp[k1,k2,h2]⟩
theorem J1F(p b q a:Int):mB es p b q a=mB es q a p b:=by
 rw[Bool.eq_iff_iff,j1y,j1y]
 exact⟨fun⟨v,h1,h2⟩=>⟨v,h2,h1⟩,fun⟨v,h1,h2⟩=>⟨v,h2,h1⟩⟩
theorem k1X{t g0:Int}{g1:U}{x a:Int}{s:Sx}(he:es.length<=2000)(hs:SxI s (stepsL es x a)): ∀(d k:Nat),k+d=(stepsL es x a).length->y99_1 M t g0 g1 (uEs b2 es) (k:Int) s=some (.val (.c (.bool (((stepsL es x a).drop k).any fun i=>decide (toOf es i=t))))):=by
 have hb:=w0F (atSt x a) es es.length
 intro d
 induction d with
 |zero=>
  intro k hk
  rw[Y0Q,dL (by omega)]
  simp only[hs.len,show¬((k:Int)<(((stepsL es x a).length:Nat):Int)) by omega,dF,bF,iF,List.any_nil]
 |succ d ih=>
  intro k hk
  have hlt:k<(stepsL es x a).length:=by omega
  have hb':(stepsL es x a).length<=2000:=by unfold stepsL;omega
  obtain⟨g1',g2'⟩:=hs.get hlt
  obtain⟨j,e,h1,h2,_⟩:=mem_steps.1 (lM hlt)
  have hto:toOf es (stepsL es x a)[k]=e.t:=by unfold toOf;rw[h1,iN,h2];rfl
  rw[Y0Q,List.drop_eq_getElem_cons hlt]
  simp only[hs.len,show((k:Int)<(((stepsL es x a).length:Nat):Int)) by omega,dY,iT,g1',g2',oS,cell_c,asI_c,List.any_cons,hto,q0a (show k<=1000000000 by omega),ih (k+1) (by omega)]
  simp only[h1,q0l h2,oS,cell_uE1,asI_c]
  by_cases h:e.t=t<;>simp[h]
theorem Q1X(he:es.length<=2000){g0 x a t:Int}{g1:U}:y99 M g0 g1 (uEs b2 es) x a t=some (.val (.c (.bool (hasS es x a t)))):=by
 obtain⟨s,s1,s2⟩:=w0G (M:=M) (b2:=b2) he (g0:=g0) (x:=x) (a:=a) (g1:=g1)
 have h1:=k1X (M:=M) (b2:=b2) (t:=t) (g0:=g0) (g1:=g1) he s2 (stepsL es x a).length 0 (by omega)
 rw[List.drop_zero,show((0:Nat):Int)=0 from rfl,w0V (P:=fun y=>decide (y=t))]at h1
 rw[W1W]
 simp only[s1,oS,asSl_sl,h1]
 rfl
def anyN(P:Nat->Bool):Nat->Nat->Bool
 | 0,_=>false
 |d+1,k=>P k||anyN P d (k+1)
theorem J0q{P:Nat->Bool}: ∀{d k:Nat},anyN P d k=true↔ ∃j,k<=j/\j<k+d/\P j=true
 | 0,k=>by simp[anyN];omega
 |d+1,k=>by
  simp only[anyN,Bool.or_eq_true,J0q (d:=d) (k:=k+1)]
  constructor
  ·rintro(h |⟨j,h1,h2,h3⟩)
   ·exact⟨k,by omega,by omega,h⟩
   ·exact⟨j,by omega,by omega,h3⟩
  ·rintro⟨j,h1,h2,h3⟩
   by_cases hj:j=k
   ·subst hj;exact .inl h3
   ·exact .inr ⟨j,by omega,by omega,h3⟩
theorem k1Y(hN:N<=60)(he:es.length<=2000){g1:U}{t0 u0:Int}{t1 t2 p2 p1:Int}: ∀(d k:Nat),k+d=N->y72_1 M (N:Int) g1 (uEs b2 es) t0 t1 t2 u0 p1 p2 (k:Int)=some (.val (.c (.bool (anyN (fun v=>hasS es t1 p2 (v:Int)&&hasS es p1 t2 (v:Int)) d k)))):=by
 intro d
 induction d with
 |zero=>
  intro k hk
  rw[Y0H]
  simp only[show¬((k:Int)<(N:Int)) by omega,dF,bF,iF,anyN]
 |succ d ih=>
  intro k hk
  rw[Y0H]
  simp only[show((k:Int)<(N:Int)) by omega,dY,iT,Q1X he,oS,toU_val,asB_c,q0a (show k<=1000000000 by omega),ih (k+1) (by omega),anyN]
  cases hasS es t1 p2 (k:Int)<;>cases hasS es p1 t2 (k:Int)<;>simp
theorem j1z(hok: ∀e∈es,eOK (N:Int) e=true){x a v:Int}(h:hasS es x a v=true): ∃m:Nat,v=(m:Int)/\m<N:=by
 obtain⟨e,he,_,_,rfl⟩:=hasS_iff.1 h
 obtain⟨_,h5,h6⟩:=q0w (hok e he)
 exact⟨e.t.toNat,by omega,by omega⟩
theorem K1u(hN:N<=60)(he:es.length<=2000)(hok: ∀e∈es,eOK (N:Int) e=true){g1:U}{i k:Nat}{x y:E3}(hx:es[i]? =some x)(hy:es[k]? =some y):y72 M (N:Int) g1 (uEs b2 es) (i:Int) (k:Int)=some (.val (.c (.bool (mB es x.t y.a y.t x.a)))):=by
 obtain⟨f,f0,f1,f2,f3⟩:=q0t x
 obtain⟨g,g0,g1',g2,g3⟩:=q0t y
 have h1:=k1Y (M:=M) (b2:=b2) (g1:=g1) (t0:=x.f) (t1:=x.t) (t2:=x.a) (u0:=y.f) (p1:=y.t) (p2:=y.a) hN he N 0 (by omega)
 rw[show((0:Nat):Int)=0 from rfl]at h1
 rw[W1D]
 simp only[q0l hx,q0l hy,oS,f0,f1,f2,f3,g0,g1',g2,g3,i_uI,h1]
 congr 4
 rw[Bool.eq_iff_iff,J0q,j1y]
 constructor
 ·rintro⟨j,_,_,h⟩
  simp only[bA]at h
  exact⟨j,h⟩
 ·rintro⟨v,h1,h2⟩
  obtain⟨m,rfl,hm⟩:=j1z hok h1
  exact⟨m,by omega,by omega,by simp[h1,h2]⟩
theorem k1Z(hN:N<=60)(he:es.length<=2000){g1:U}{x0 x1 x2 z0 z1 z2:Int}: ∀(d k:Nat),k+d=N->y73_1 M (N:Int) g1 (uEs b2 es) x0 x1 x2 z0 z1 z2 (k:Int)=some (.val (.c (.bool (anyN (fun v=>hasS es x0 z2 (v:Int)&&hasS es (v:Int) x2 z1) d k)))):=by
 intro d
 induction d with
 |zero=>
  intro k hk
  rw[Y0I]
  simp only[show¬((k:Int)<(N:Int)) by omega,dF,bF,iF,anyN]
 |succ d ih=>
  intro k hk
  rw[Y0I]
  simp only[show((k:Int)<(N:Int)) by omega,dY,iT,Q1X he,oS,toU_val,asB_c,q0a (show k<=1000000000 by omega),ih (k+1) (by omega),anyN]
  cases hasS es x0 z2 (k:Int)<;>cases hasS es (k:Int) x2 z1<;>simp
theorem Q1Y(hN:N<=60)(he:es.length<=2000)(hok: ∀e∈es,eOK (N:Int) e=true){g1:U}{i k:Nat}{x y:E3}(hx:es[i]? =some x)(hy:es[k]? =some y):y73 M (N:Int) g1 (uEs b2 es) (i:Int) (k:Int)=some (.val (.c (.bool (tB es x.f y.a x.a y.t)))):=by
 obtain⟨f,f0,f1,f2,f3⟩:=q0t x
 obtain⟨g,g0,g1',g2,g3⟩:=q0t y
 have h1:=k1Z (M:=M) (b2:=b2) (g1:=g1) (x0:=x.f) (x1:=x.t) (x2:=x.a) (z0:=y.f) (z1:=y.t) (z2:=y.a) hN he N 0 (by omega)
 rw[show((0:Nat):Int)=0 from rfl]at h1
 rw[W1E]
 simp only[q0l hx,q0l hy,oS,f0,f1,f2,f3,g0,g1',g2,g3,i_uI,h1]
 congr 4
 rw[Bool.eq_iff_iff,J0q,K1t]
 constructor
 ·rintro⟨j,_,_,h⟩
  simp only[bA]at h
  exact⟨j,h⟩
 ·rintro⟨v,h1,h2⟩
  obtain⟨m,rfl,hm⟩:=j1z hok h1
  exact⟨m,by omega,by omega,by simp[h1,h2]⟩
theorem z0O(hok: ∀e∈es,eOK (N:Int) e=true){x a:Nat}(hx:x<N)(ha:a<12): ∃w,U.idx 12 (.sl true ((byU N es).map .st)) (x:Int)=some w/\U.cell w (0+((a:Int)).toNat*1)=some (rowU (stepsL es (x:Int) (a:Int))):=by
 refine⟨_,Q1P hx, ?_⟩
 rw[iN,show 0+a*1=a by omega,J1u ha,W0f hok ha]
theorem w1a(he:es.length<=2000)(hs:es.Pairwise lt3){x a u b:Int}: ∀(d k:Nat),k+d=(stepsL es x a).length->y93_1 M (openU N u1 b2 es) u b (rowU (stepsL es x a)) ((stepsL es x a).length:Int) (k:Int)=some (.val (.c (.bool (((stepsL es x a).drop k).any fun i=>hasS es u b (toOf es i))))):=by
 obtain⟨v,v0,v1,v2,v3,v4,v5⟩:=q0f N u1 b2 es
 have hb:=w0F (atSt x a) es es.length
 intro d
 induction d with
 |zero=>
  intro k hk
  rw[Y0N,dL (by omega)]
  simp only[show¬((k:Int)<((stepsL es x a).length:Int)) by omega,dF,bF,iF,List.any_nil]
 |succ d ih=>
  intro k hk
  have hlt:k<(stepsL es x a).length:=by omega
  have hb':(stepsL es x a).length<=2000:=by unfold stepsL;omega
  obtain⟨j,e,h1,h2,_⟩:=mem_steps.1 (lM hlt)
  have hto:toOf es (stepsL es x a)[k]=e.t:=by unfold toOf;rw[h1,iN,h2];rfl
  rw[Y0N,List.drop_eq_getElem_cons hlt]
  simp only[show((k:Int)<((stepsL es x a).length:Int)) by omega,dY,iT,j0y (q0b hlt),oS,cell_c,asI_c,List.any_cons,hto,q0a (show k<=1000000000 by omega),ih (k+1) (by omega),v0,v3]
  simp only[h1,q0l h2,oS,cell_uE1,asI_c,j1x he hs,toU_val,asB_c]
  cases hasS es u b e.t<;>simp
theorem K1v(he:es.length<=2000)(hok: ∀e∈es,eOK (N:Int) e=true)(hs:es.Pairwise lt3){x a:Nat}{u b:Int}(hx:x<N)(ha:a<12):y93 M (openU N u1 b2 es) (x:Int) (a:Int) u b=some (.val (.c (.bool (mB es (x:Int) (a:Int) u b)))):=by
 obtain⟨v,v0,v1,v2,v3,v4,v5⟩:=q0f N u1 b2 es
 obtain⟨w,w1,w2⟩:=z0O hok hx ha
 have h1:=w1a (M:=M) (N:=N) (u1:=u1) (b2:=b2) (u:=u) (b:=b) he hs (x:=(x:Int)) (a:=(a:Int)) (stepsL es (x:Int) (a:Int)).length 0 (by omega)
 rw[List.drop_zero,show((0:Nat):Int)=0 from rfl,w0V (P:=fun y=>hasS es u b y)]at h1
 rw[W1Q]
 simp only[v0,v5,w1,w2,oS,show(0:Int)<=(a:Int)/\(a:Int)<((12:Nat):Int)from⟨by omega,by omega⟩,and_self,iT,len_rowU,h1]
 rfl
theorem J1G(he:es.length<=2000)(hs:es.Pairwise lt3){j:Nat}{e x y:E3}(h2:es[j]? =some e):ycall M 109 ([]++[uI (j:Int)]++[.ref (.st [openU N u1 b2 es]) 0, .ref (.st [.c (.int .i64 y.f), .c (.int .i64 y.t), .c (.int .i64 y.a)]) 0, .ref (.st [.c (.int .i64 x.f), .c (.int .i64 x.t), .c (.int .i64 x.a)]) 0])=some (.val (.c (.bool (hasS es e.t x.a y.t)))):=by
 obtain⟨v,v0,v1,v2,v3,v4,v5⟩:=q0f N u1 b2 es
 show y109 M (j:Int) (.ref (.st [openU N u1 b2 es]) 0) (.ref (.st [.c (.int .i64 y.f), .c (.int .i64 y.t), .c (.int .i64 y.a)]) 0) (.ref (.st [.c (.int .i64 x.f), .c (.int .i64 x.t), .c (.int .i64 x.a)]) 0)=_
 have a1: ∀w:U,U.asR (.ref w 0)=some (w,0):=fun _=>rfl
 have a2:U.cell (.st [openU N u1 b2 es]) 0=some (openU N u1 b2 es):=rfl
 have a3:U.cell (.st [.c (.int .i64 y.f), .c (.int .i64 y.t), .c (.int .i64 y.a)]) (0+1)=some (.c (.int .i64 y.t)):=rfl
 have a4:U.cell (.st [.c (.int .i64 x.f), .c (.int .i64 x.t), .c (.int .i64 x.a)]) (0+2)=some (.c (.int .i64 x.a)):=rfl
 rw[Z1E]
 simp only[a1,a2,a3,a4,v0,v3,q0l h2,cell_uE1,oS,asI_c,j1x he hs,toU_val,asB_c]
end
end Go.Proofs.Ythjjbkiejkhjfaa.R
