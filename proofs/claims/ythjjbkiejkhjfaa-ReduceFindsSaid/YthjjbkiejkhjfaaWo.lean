/- - -/
import Derived.Test.YthjjbkiejkhjfaaWm
import Derived.Test.YthjjbkiejkhjfaaWg
set_option linter.all false
namespace Go.Proofs.Ythjjbkiejkhjfaa.R
open Go Go.Proofs.Ythjjbkiejkhjfaa.Vm
variable{M:YM}
def chL(g:U)(D:Nat->Nat->Bool)(v:Nat->Bool)(cu:U):List U:=
 [g]++(((List.range 144).map fun j=> .c (.bool (D (j / 12) (j % 12))))++(((List.range 12).map fun a=> .c (.bool (v a)))++([cu]++[])))
def chU(g:U)(D:Nat->Nat->Bool)(v:Nat->Bool)(cu:U):U:= .ref (.st (chL g D v cu)) 0
theorem j0c(g:U)(D:Nat->Nat->Bool)(v:Nat->Bool)(cu:U): ∃w,(chU g D v cu).asR=some (w,0)/\U.cell w 0=some g/\U.cell w (0+157)=some cu/\
  (∀a b,a<12->b<12->U.cell w (((0+1)+a*12)+b*1)=some (.c (.bool (D a b))))/\ ∀a,a<12->U.cell w ((0+145)+a*1)=some (.c (.bool (v a))):=by
 refine⟨.st (chL g D v cu),rfl,rfl, ?_,fun a b ha hb=> ?_,fun a ha=> ?_⟩
 ·show(chL g D v cu)[157]? =_
  unfold chL
  rw[List.getElem?_append_right (by simp),List.getElem?_append_right (by simp),List.getElem?_append_right (by simp)]
  simp
 ·show(chL g D v cu)[((0+1)+a*12)+b*1]? =_
  unfold chL
  rw[List.getElem?_append_right (by simp;omega),List.getElem?_append_left (by simp;omega)]
  have h1:(1+a*12+b - 1)=a*12+b:=by omega
  have h2:(a*12+b) / 12=a:=by omega
  have h3:(a*12+b) % 12=b:=by omega
  simp[h1,h2,h3,show a*12+b<144 by omega]
 ·show(chL g D v cu)[(0+145)+a*1]? =_
  unfold chL
  rw[List.getElem?_append_right (by simp<;>omega),List.getElem?_append_right (by simp<;>omega),List.getElem?_append_left (by simp<;>omega)]
  simp[ha,show 145+a - 1 - 144=a by omega]
def cmpL:List Int->List Int->Int
 | [],[]=>0
 | [],_::_=> -1
 |_::_,[]=>1
 |a::l,b::r=>if cmpN a b=0 then cmpL l r else cmpN a b
section
variable{N:Nat}{n:Int}{b1 b2 b3:Bool}{l:List Int}{es:List E3}{u1:U}{xs:List (Bool×List Int)}{D:Nat->Nat->Bool}{v:Nat->Bool}
theorem z1s{b b':Bool}{l r:List Int}(hn:l.length<=1000000): ∀(d k:Nat),k+d=l.length->(k<=r.length)->y103_1 M (uIs b l) (uIs b' r) (uIs b l) (l.length:Int) (k:Int)=some (.val (uI (cmpL (l.drop k) (r.drop k)))):=by
 intro d
 induction d with
 |zero=>
  intro k hk hr
  rw[K0g,dL (show l.length<=k by omega)]
  simp only[show¬((k:Int)<l.length) by omega,dF,bF,iF,len_uIs,oS]
  by_cases h:k<r.length
  ·rw[q0c h]
   simp[show(l.length:Int)<(r.length:Int) by omega,cmpL]
  ·rw[dL (show r.length<=k by omega)]
   simp[show¬((l.length:Int)<(r.length:Int)) by omega,cmpL]
 |succ d ih=>
  intro k hk hr
  have hlt:k<l.length:=by omega
  rw[K0g,q0c hlt]
  simp only[show((k:Int)<l.length) by omega,dY,iT,len_uIs,oS,q0m (q0b hlt),cell_c,asI_c]
  by_cases h:k<r.length
  ·rw[q0c h]
   simp only[show¬((r.length:Int)<=(k:Int)) by omega,dF,bF,iF,q0m (q0b h),oS,cell_c,asI_c,j1m,toU_val,asI_uI,cmpL,q0a (show k<=1000000000 by omega),ih (k+1) (by omega) (by omega)]
   by_cases h0:cmpN l[k] r[k]=0<;>simp[-List.getElem_cons_drop,h0]
  ·rw[dL (show r.length<=k by omega)]
   simp only[show((r.length:Int)<=(k:Int)) by omega,dY,iT,cmpL]
theorem Z1a{b b':Bool}{l r:List Int}(hn:l.length<=1000000):y103 M (uIs b l) (uIs b' r)=some (.val (uI (cmpL l r))):=by
 have:=z1s (M:=M) (b:=b) (b':=b') (r:=r) hn l.length 0 (by omega) (by omega)
 rw[show((0:Nat):Int)=0 from rfl,List.drop_zero,List.drop_zero]at this
 rw[Z1y]
 simp only[len_uIs,oS,this]
theorem z1t{b b':Bool}{l r:List Int}(hn:l.length<=1000000)(hr:r.length=l.length): ∀(d k:Nat),k+d=l.length->y105_1 M (uIs b l) (uIs b' r) (l.length:Int) (k:Int)=some (.val (.c (.bool (decide (l.drop k=r.drop k))))):=by
 intro d
 induction d with
 |zero=>
  intro k hk
  rw[K0h,dL (show l.length<=k by omega),dL (show r.length<=k by omega)]
  simp[show¬(k<l.length) by omega]
 |succ d ih=>
  intro k hk
  have hlt:k<l.length:=by omega
  have hlr:k<r.length:=by omega
  rw[K0h,q0c hlt,q0c hlr]
  simp only[show((k:Int)<l.length) by omega,dY,iT,q0m (q0b hlt),q0m (q0b hlr),oS,cell_c,asI_c,q0a (show k<=1000000000 by omega),ih (k+1) (by omega)]
  by_cases h0:l[k]=r[k]<;>simp[-List.getElem_cons_drop,h0]
theorem Z1b{b b':Bool}{l r:List Int}(hn:l.length<=1000000):y105 M (uIs b l) (uIs b' r)=some (.val (.c (.bool (decide (l=r))))):=by
 rw[Z1A]
 simp only[len_uIs,oS]
 by_cases h:l.length=r.length
 ·have:=z1t (M:=M) (b:=b) (b':=b') hn h.symm l.length 0 (by omega)
  rw[List.drop_zero,List.drop_zero,show((0:Nat):Int)=0 from rfl]at this
  have e:decide ((l.length:Int)=(r.length:Int))=true:=by simp[h]
  simp only[e,Bool.not_true,bF,iF,this]
 ·have h2: ¬l=r:=fun e=>h (by rw[e])
  simp only[show¬((l.length:Int)=(r.length:Int)) by omega,dF,Bool.not_false,iT,h2]
theorem Z0I{s:Nat}(hs:s<N)(hok: ∀e∈es,eOK (N:Int) e=true): ∃w f,U.idx 12 (.sl true ((byU N es).map .st)) (s:Int)=some w/\U.struct w 0 ks4=some f/\ ∀a:Nat,a<12->f a=rowU (stepsL es (s:Int) (a:Int)):=by
 refine⟨_,fun i=>((List.range 12).map fun a=>rowU (ixs gBy es (12*s+a) es.length)).getD (0+i) (.c .junk),Q1P hs, ?_,fun a ha=> ?_⟩
 ·simp[U.struct,ks4,hasKs,U.hasK,List.range,List.range.loop]
 ·show((List.range 12).map fun a=>rowU (ixs gBy es (12*s+a) es.length)).getD (0+a) (.c .junk)=_
  rw[Nat.zero_add,<-W0f hok ha]
  simp[lG,ha]
theorem w1T{x:Int}: ∀(d k:Nat) (out:Sx) (lo:List Int),k+d=12->SxI out lo->lo.length<=k->
  ∃s,y74_1 M (rowU (stepsL es x 0)) (rowU (stepsL es x 1)) (rowU (stepsL es x 2)) (rowU (stepsL es x 3)) (rowU (stepsL es x 4)) (rowU (stepsL es x 5)) (rowU (stepsL es x 6)) (rowU (stepsL es x 7)) (rowU (stepsL es x 8)) (rowU (stepsL es x 9)) (rowU (stepsL es x 10)) (rowU (stepsL es x 11)) (k:Int) out=some (.sl s)/\SxI s (lo++picks (enB es x) d k):=by
 intro d
 induction d with
 |zero=>
  intro k out lo hk ho hl
  rw[w0A]
  simp only[show¬((k:Int)<12) by omega,dF,bF,iF,picks,List.append_nil,ho.scals,iT]
  exact⟨out,rfl,ho⟩
 |succ d ih=>
  intro k out lo hk ho hl
  have hk12:k<12:=by omega
  have hget:[rowU (stepsL es x 0),rowU (stepsL es x 1),rowU (stepsL es x 2),rowU (stepsL es x 3),rowU (stepsL es x 4),rowU (stepsL es x 5),rowU (stepsL es x 6),rowU (stepsL es x 7),rowU (stepsL es x 8),rowU (stepsL es x 9),rowU (stepsL es x 10),rowU (stepsL es x 11)][((k:Int)).toNat]? =some (rowU (stepsL es x (k:Int))):=by
   rw[iN]
   have:[rowU (stepsL es x 0),rowU (stepsL es x 1),rowU (stepsL es x 2),rowU (stepsL es x 3),rowU (stepsL es x 4),rowU (stepsL es x 5),rowU (stepsL es x 6),rowU (stepsL es x 7),rowU (stepsL es x 8),rowU (stepsL es x 9),rowU (stepsL es x 10),rowU (stepsL es x 11)]=(List.range 12).map fun a:Nat=>rowU (stepsL es x (a:Int)):=rfl
   rw[this]
   simp[hk12]
  have h0:decide ((0:Int)<((stepsL es x (k:Int)).length:Int))=enB es x k:=by
   unfold enB
   cases stepsL es x (k:Int)with
   |nil=>rfl
   |cons y r=>simp
  rw[w0A]
  simp only[show((k:Int)<12) by omega,dY,iT,show(0:Int)<=(k:Int)/\(k:Int)<((12:Nat):Int)from⟨by omega,by omega⟩,and_self,hget,oS,len_rowU,picks,h0,Y0J,q0a (show k<=1000000000 by omega)]
  rcases Bool.eq_false_or_eq_true (enB es x k)with hr |hr
  ·obtain⟨s',g1,g2⟩:=ho.app (k:Int) (by omega)
   obtain⟨s,k1,k2⟩:=ih (k+1) s' _ (by omega) g2 (by simp;omega)
   simp only[hr,iT,g1,oS,k1]
   exact⟨s,rfl,by simpa using k2⟩
  ·obtain⟨s,k1,k2⟩:=ih (k+1) out lo (by omega) ho (by omega)
   simp only[hr,bF,iF,k1,List.nil_append]
   exact⟨s,rfl,k2⟩
theorem J1l(hok: ∀e∈es,eOK (N:Int) e=true){s:Nat}(hs:s<N): ∃o,y74 M (openU N u1 b2 es) (s:Int)=some (.sl o)/\SxI o (enabled es (s:Int)):=by
 obtain⟨v,v0,v1,v2,v3,v4,v5⟩:=q0f N u1 b2 es
 obtain⟨w,f,w1,w2,w3⟩:=Z0I hs hok
 obtain⟨o,o1,o2⟩:=w1T (M:=M) (es:=es) (x:=(s:Int)) 12 0 ⟨false,0,[]⟩ [] (by omega) .nil (by simp)
 rw[J1p]
 simp only[v0,v5,w1,w2,oS,w3 0 (by omega),w3 1 (by omega),w3 2 (by omega),w3 3 (by omega),w3 4 (by omega),w3 5 (by omega),w3 6 (by omega),w3 7 (by omega),w3 8 (by omega),w3 9 (by omega),w3 10 (by omega),w3 11 (by omega)]
 exact⟨o,o1,by simpa[enabled]using o2⟩
theorem j0v(x:Int):(enabled es x).length<=12:=j0K _ _ _
def chX(N:Nat)(u1:U)(b2:Bool)(es:List E3)(D:Nat->Nat->Bool)(v:Nat->Bool)(b3:Bool)(xs:List (Bool×List Int)):U:=chU (openU N u1 b2 es) D v (uLs b3 xs)
def atC(xs:List (Bool×List Int))(s:Nat):List Int:=(xs.getD s (false,[])).2
theorem z0q{s:Nat}(h:s<xs.length): ∃b,U.idx 1 (uLs b3 xs) (s:Int)=some (uIs b (atC xs s)):=by
 refine⟨xs[s].1, ?_⟩
 rw[z0U (q0b h)]
 simp[atC,h]
theorem X0m(hok: ∀e∈es,eOK (N:Int) e=true)(hn:xs.length=N)(hx: ∀x∈xs,x.2.length<=1000000){s:Nat}(hs:s<N):y84 M (chX N u1 b2 es D v b3 xs) (s:Int)=some (.val (.c (.bool (decide (atC xs s=enabled es (s:Int)))))):=by
 obtain⟨w,w0,w1,w2,w3,w4⟩:=j0c (openU N u1 b2 es) D v (uLs b3 xs)
 obtain⟨b,hb⟩:=z0q (b3:=b3) (show s<xs.length by omega)
 obtain⟨o,o1,o2⟩:=J1l (M:=M) (u1:=u1) (b2:=b2) hok hs
 have hlen:(atC xs s).length<=1000000:=j0E hx s
 unfold chX
 rw[W1I]
 simp only[w0,w1,w2,hb,oS,cell_uIs,o1,asSl_sl,o2.fz,Z1b hlen,toU_val,asB_c]
theorem z1u(hn:xs.length=N)(hx: ∀x∈xs,x.2.length<=1000000){s:Nat}(hs:s<N){a:Int}:y86 M (chX N u1 b2 es D v b3 xs) (s:Int) a=some (.val (.c (.bool (decide (a∈atC xs s))))):=by
 obtain⟨w,w0,w1,w2,w3,w4⟩:=j0c (openU N u1 b2 es) D v (uLs b3 xs)
 obtain⟨b,hb⟩:=z0q (b3:=b3) (show s<xs.length by omega)
 have hlen:(atC xs s).length<=1000000:=j0E hx s
 unfold chX
 rw[W1K]
 simp only[w0,w2,hb,oS,cell_uIs,Z1S hlen,toU_val,asB_c]
def edgeAt(es:List E3)(i:Int):E3:=(es[i.toNat]?).getD ⟨0,0,0⟩
theorem j0w{j:Nat}{e:E3}(h:es[j]? =some e):edgeAt es (j:Int)=e:=by unfold edgeAt;rw[iN,h];rfl
def mvF(es:List E3)(x:Int):Nat->Nat->List E3
 | 0,_=>[]
 |d+1,a=>(stepsL es x (a:Int)).map (edgeAt es)++mvF es x d (a+1)
def mv(es:List E3)(x:Int):List E3:=mvF es x 12 0
theorem z1v(he:es.length<=2000)(hok: ∀e∈es,eOK (N:Int) e=true){cu:U}{s a:Nat}: ∀(d k:Nat) (out:Sx) (lo:List E3),k+d=(stepsL es (s:Int) (a:Int)).length->SxE out lo->lo.length+d<=1000000->
  ∃out',SxE out' (lo++((stepsL es (s:Int) (a:Int)).drop k).map (edgeAt es))/\y102_2 M (chU (openU N u1 b2 es) D v cu) (s:Int) (a:Int) (rowU (stepsL es (s:Int) (a:Int))) ((stepsL es (s:Int) (a:Int)).length:Int) (k:Int) out=y102_1 M (chU (openU N u1 b2 es) D v cu) (s:Int) (IntKind.wrap .i64 ((a:Int)+1)) out':=by
 obtain⟨w,w0,w1,w2,w3,w4⟩:=j0c (openU N u1 b2 es) D v cu
 obtain⟨v',v0,v1,v2,v3,v4,v5⟩:=q0f N u1 b2 es
 have hlen:=q0k (es:=es) (s:Int) (a:Int)
 intro d
 induction d with
 |zero=>
  intro k out lo hk ho _
  rw[K0f,dL (by omega)]
  simp only[show¬((k:Int)<((stepsL es (s:Int) (a:Int)).length:Int)) by omega,dF,bF,iF,List.map_nil,List.append_nil]
  exact⟨out,ho,rfl⟩
 |succ d ih=>
  intro k out lo hk ho hl
  have hlt:k<(stepsL es (s:Int) (a:Int)).length:=by omega
  obtain⟨j,e,hj,he2,_⟩:=mem_steps.1 (lM hlt)
  obtain⟨f,f0,f1,f2,f3⟩:=q0t e
  obtain⟨o',g1,g2⟩:=ho.app e (by omega)
  obtain⟨out',k1,k2⟩:=ih (k+1) o' _ (by omega) g2 (by simp;omega)
  rw[K0f,q0c hlt]
  simp only[show((k:Int)<((stepsL es (s:Int) (a:Int)).length:Int)) by omega,dY,iT,j0y (q0b hlt),oS,cell_c,asI_c,w0,w1,v0,v3]
  rw[hj]
  simp only[q0l he2,oS,f0,f1,f2,f3,i_uI,g1,q0a (show k<=1000000000 by omega),k2]
  refine⟨out', ?_,rfl⟩
  rw[List.map_cons,j0w he2]
  simpa using k1
theorem z1w(x:Int): ∀d a,(mvF es x d a).length<=es.length*d
 | 0,_=>Nat.zero_le _
 |d+1,a=>by
  have:=z1w x d (a+1)
  have h2:=q0k (es:=es) x (a:Int)
  simp only[mvF,List.length_append,List.length_map,Nat.mul_succ]
  omega
theorem K0R(l:List E3):scals (l.map uE)=true:=by
 induction l with
 |nil=>rfl
 |cons x l ih=>simp only[List.map_cons,scals,ih,Bool.and_true];rfl
theorem z1x(he:es.length<=2000)(hok: ∀e∈es,eOK (N:Int) e=true){cu:U}{s:Nat}(hs:s<N): ∀(d a:Nat) (out:Sx) (lo:List E3),a+d=12->SxE out lo->lo.length+2000*d<=1000000->
  ∃o,y102_1 M (chU (openU N u1 b2 es) D v cu) (s:Int) (a:Int) out=some (.sl o)/\SxE o (lo++mvF es (s:Int) d a):=by
 obtain⟨w,w0,w1,w2,w3,w4⟩:=j0c (openU N u1 b2 es) D v cu
 obtain⟨v',v0,v1,v2,v3,v4,v5⟩:=q0f N u1 b2 es
 intro d
 induction d with
 |zero=>
  intro a out lo ha ho hl
  rw[K0e]
  simp only[show¬((a:Int)<12) by omega,dF,bF,iF,mvF,List.append_nil]
  rw[ho.es,K0R,if_pos rfl]
  exact⟨out,rfl,ho⟩
 |succ d ih=>
  intro a out lo ha ho hl
  obtain⟨q,q1,q2⟩:=z0O hok hs (show a<12 by omega)
  have hlen:=q0k (es:=es) (s:Int) (a:Int)
  obtain⟨o',g1,g2⟩:=z1v (M:=M) (u1:=u1) (b2:=b2) (D:=D) (v:=v) (cu:=cu) (s:=s) (a:=a) he hok _ 0 out lo (Nat.zero_add _) ho (by omega)
  rw[List.drop_zero]at g1
  obtain⟨o,k1,k2⟩:=ih (a+1) o' _ (by omega) g1 (by simp;omega)
  rw[show((0:Nat):Int)=0 from rfl,q0a (show a<=1000000000 by omega),k1]at g2
  rw[K0e]
  simp only[show((a:Int)<12) by omega,dY,iT,w0,w1,v0,v5,q1,q2,oS,show(0:Int)<=(a:Int)/\(a:Int)<((12:Nat):Int)from⟨by omega,by omega⟩,and_self,len_rowU,g2]
  exact⟨o,rfl,by simpa[mvF]using k2⟩
theorem z1y(he:es.length<=2000)(hok: ∀e∈es,eOK (N:Int) e=true){s:Nat}(hs:s<N): ∃o,y102 M (chX N u1 b2 es D v b3 xs) (s:Int)=some (.sl o)/\SxE o (mv es (s:Int)):=by
 unfold chX
 rw[Z1x]
 exact z1x he hok hs 12 0 ⟨false,0,[]⟩ [] (by omega) .nil (by simp)
theorem z0Q{x:Int}{e:E3}:e∈mv es x->e∈es/\e.f=x:=by
 have: ∀d a,e∈mvF es x d a->e∈es/\e.f=x:=by
  intro d
  induction d with
  |zero=>intro a h;cases h
  |succ d ih=>
   intro a h
   simp only[mvF,mA,List.mem_map]at h
   rcases h with⟨i,hi,rfl⟩ |h
   ·obtain⟨j,e,rfl,h2,h3,_⟩:=mem_steps.1 hi
    rw[j0w h2]
    exact⟨List.mem_of_getElem? h2,h3⟩
   ·exact ih _ h
 exact this 12 0
theorem z1z(l:List Int)(hn:l.length<=1000000): ∃s,y59 M (uIs true l)=some (.sl s)/\SxI s l:=Z1T (fun h=>by cases h) hn
theorem Z1c{l:List Int}{at' x0 x1 x2:Int}(hn:l.length<=1000000):y106 M (uIs true l) at' x0 x1 x2=some (.val (.st [uIs true (l++[x2,x1]),uI x1])):=by
 obtain⟨s,s1,s2⟩:=z1z (M:=M) l hn
 rw[Z1B]
 simp only[s1,oS,asSl_sl]
 have:Sx.app s 1 [.c (.int .i64 x2), .c (.int .i64 x1)]=some ⟨true,1,s.es++[uI x2,uI x1]⟩:=by
  unfold Sx.app
  rw[if_pos]
  ·simp
  ·refine⟨?_,rfl, ?_⟩
   ·cases hb:s.b with
    |false=>exact .inl rfl
    |true=>exact .inr (s2.z hb)
   ·show _<=_
    rw[s2.len];simp;omega
 rw[this,oS]
 show some (Rz.val (.st [.sl true (s.es++[uI x2,uI x1]),uI x1]))=_
 rw[s2.es]
 unfold uIs
 simp
theorem Z1d(hn:xs.length=N)(hx: ∀x∈xs,x.2.length<=1000000){s:Nat}(hs:s<N){x0 x1 x2:Int}:y104 M x0 x1 x2 (.ref (.st [chX N u1 b2 es D v b3 xs]) 0) (.ref (.st [uI (s:Int)]) 0)=some (.val (.c (.bool (!decide (x2∈atC xs s))))):=by
 have a1: ∀w:U,U.asR (.ref w 0)=some (w,0):=fun _=>rfl
 have a2: ∀u:U,U.cell (.st [u]) 0=some u:=fun _=>rfl
 rw[Z1z]
 simp only[a1,a2,oS,asI_uI,z1u hn hx hs,toU_val,asB_c]
theorem K1L(hok: ∀e∈es,eOK (N:Int) e=true)(hn:xs.length=N)(hx: ∀x∈xs,x.2.length<=1000000){s t:Nat}(hs:s<N)(ht:t<N){x2:Int}:y85 M (s:Int) (t:Int) x2 (.ref (.st [chX N u1 b2 es D v b3 xs]) 0)=some (.val (.c (.bool (decide (x2∈atC xs s)&& !decide (atC xs t=enabled es (t:Int)))))):=by
 have a1: ∀w:U,U.asR (.ref w 0)=some (w,0):=fun _=>rfl
 have a2: ∀u:U,U.cell (.st [u]) 0=some u:=fun _=>rfl
 rw[W1J]
 simp only[a1,a2,oS,z1u hn hx hs,toU_val,asB_c,X0m hok hn hx ht]
 by_cases h:x2∈atC xs s<;>simp[h]
theorem Z1e(hn:xs.length=N)(hx: ∀x∈xs,x.2.length<=1000000){s a:Nat}(hs:s<N)(ha:a<12)(hc: ∀c∈atC xs s,0<=c/\c<12):y100 M (a:Int) (.ref (.st [chX N u1 b2 es D v b3 xs]) 0) (.ref (.st [uI (s:Int)]) 0)=some (.val (.c (.bool ((atC xs s).any fun c=>D a c.toNat)))):=by
 have a1: ∀w:U,U.asR (.ref w 0)=some (w,0):=fun _=>rfl
 have a2: ∀u:U,U.cell (.st [u]) 0=some u:=fun _=>rfl
 have a3: ∀(w:U),U.one (.ref w 0)=some (.ref w 0):=fun _=>rfl
 obtain⟨w,w0,w1,w2,w3,w4⟩:=j0c (openU N u1 b2 es) D v (uLs b3 xs)
 obtain⟨b,hb⟩:=z0q (b3:=b3) (show s<xs.length by omega)
 have hlen:(atC xs s).length<=1000000:=j0E hx s
 have h79:=q1P (M:=M) (b:=b) (l:=atC xs s) (g:=101) (a:=[]) (c:=[.ref (.st [chX N u1 b2 es D v b3 xs]) 0, .ref (.st [.c (.int .i64 (a:Int))]) 0]) (p:=fun c=>D a c.toNat) (fun c hc'=>by
  obtain⟨c0,c1⟩:=hc c hc'
  obtain⟨m,rfl⟩:=iZ c0
  show y101 M (m:Int) (.ref (.st [chX N u1 b2 es D v b3 xs]) 0) (.ref (.st [.c (.int .i64 (a:Int))]) 0)=_
  unfold chX
  rw[Z1w]
  simp only[a1,a2,oS,w0,asI_c,show(0:Int)<=(a:Int)/\(a:Int)<((12:Nat):Int)from⟨by omega,by omega⟩,show(0:Int)<=(m:Int)/\(m:Int)<((12:Nat):Int)from⟨by omega,by omega⟩,and_self,iT,iN,w3 a m ha (by omega),asB_c]) hlen
 unfold chX at h79⊢
 rw[Z1v]
 simp only[a1,a2,a3,w0,w2,hb,oS,asI_uI,cell_uIs,h79,toU_val,asB_c]
theorem K1M{a:Nat}(ha:a<12):y83 M (a:Int) (.ref (.st [chX N u1 b2 es D v b3 xs]) 0)=some (.val (.c (.bool (v a)))):=by
 have a1: ∀w:U,U.asR (.ref w 0)=some (w,0):=fun _=>rfl
 have a2: ∀u:U,U.cell (.st [u]) 0=some u:=fun _=>rfl
 obtain⟨w,w0,w1,w2,w3,w4⟩:=j0c (openU N u1 b2 es) D v (uLs b3 xs)
 unfold chX
 rw[W1H]
 simp only[a1,a2,oS,w0,show(0:Int)<=(a:Int)/\(a:Int)<((12:Nat):Int)from⟨by omega,by omega⟩,and_self,iT,iN,w4 a ha,asB_c]
end
end Go.Proofs.Ythjjbkiejkhjfaa.R
