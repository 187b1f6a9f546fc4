/- - -/
import Derived.Test.YthjjbkiejkhjfaaWr
set_option linter.all false
namespace Go.Proofs.Ythjjbkiejkhjfaa.R
open Go Go.Proofs.Ythjjbkiejkhjfaa.Vm
variable{M:YM}
def HasBC(M:YM):Prop:=(∀us,M.ext 81 us=pickY BefP us)/\ ∀us,M.ext 54 us=pickY CirP us
section
variable{N:Nat}{n:Int}{b1 b2 b3:Bool}{l lab:List Int}{es:List E3}{xs:List (Bool×List Int)}{u1 g1:U}{v:Nat->Bool}
theorem K1S(hM:HasBC M)(hN:N<=60)(he:es.length<=2000)(hok: ∀e∈es,eOK (N:Int) e=true)(hn:xs.length=N)(hx: ∀x∈xs,x.2.length<=1000000){s:Nat}(hs:s<N)(hch: ∀q∈atC xs s,0<=q/\q<12){r:List Int}(hr:befR es (DD es N) xs s=some r):
  y81 M (chX N u1 b2 es (DD es N) v b3 xs) (s:Int)=some (.val (rowU r)):=by
 unfold y81 yrunM
 rw[k0S]
 have:Vm.ystepR M.ext yprog md (Vm.yrun M.ext yprog md) 81 0 [.val (chX N u1 b2 es (DD es N) v b3 xs), .val (.c (.int .i64 (s:Int)))] []=M.ext 81 [chX N u1 b2 es (DD es N) v b3 xs,uI (s:Int)]:=by kernel_rfl
 rw[this,hM.1,W0g (P:=BefP) (fun _ _ _ h k=>BefP.one h k) (r:=r) ⟨N,es,xs,s,⟨⟨u1,b2,v,b3,rfl⟩,hN,he,hok,hn,hx,hs⟩,hch,hr⟩]
theorem K1T(hM:HasBC M)(hN:N<=60)(he:es.length<=2000)(hok: ∀e∈es,eOK (N:Int) e=true)(hn:xs.length=N)(hx: ∀x∈xs,x.2.length<=1000000){s:Nat}(hs:s<N){r:List Int}(hr:cirR es xs s=some r):
  y54 M (chX N u1 b2 es (DD es N) v b3 xs) (s:Int)=some (.val (rowU r)):=by
 unfold y54 yrunM
 rw[k0S]
 have:Vm.ystepR M.ext yprog md (Vm.yrun M.ext yprog md) 54 0 [.val (chX N u1 b2 es (DD es N) v b3 xs), .val (.c (.int .i64 (s:Int)))] []=M.ext 54 [chX N u1 b2 es (DD es N) v b3 xs,uI (s:Int)]:=by kernel_rfl
 rw[this,hM.2,W0g (P:=CirP) (fun _ _ _ h k=>CirP.one h k) (r:=r) ⟨N,es,xs,s,⟨⟨u1,b2,v,b3,rfl⟩,hN,he,hok,hn,hx,hs⟩,hr⟩]
theorem X0y{cond:E3->Bool}{m:Nat}: ∀{layer:List PE} {r:List Int},hitL es cond layer=some r->(∀p∈layer,p.1.length=m)->r.length=m+1
 | [],r,h,_=>by cases h
 |p::layer,r,h,hl=>by
  unfold hitL at h
  split at h
  ·cases h;simp[hl p (by simp)]
  ·exact X0y h fun q hq=>hl q (by simp[hq])
theorem Z1k(hs:es.Pairwise lt3){D:Nat->Nat->Bool}{s:Nat}{r:List Int}: ∀(f:Nat) (m:Nat) (ks:List Int) (layer:List PE),LayS m layer->befF es D xs s f ks layer=some r->r.length<=m+2*f
 | 0,_,_,_,_,h=>by cases h
 |f+1,m,ks,layer,hl,h=>by
  simp only[befF]at h
  split at h
  ·cases h;exact Nat.zero_le _
  ·rw[w0Y hs hl]at h
   cases hh:hitL es (condB D xs s) layer with
   |some b=>
    rw[hh]at h
    cases h
    have:=X0y hh hl.len
    omega
   |none=>
    rw[hh]at h
    have:=Z1k hs f (m+2) _ _ (Z0s hs hl) h
    omega
def fault1(es:List E3)(N:Nat)(xs:List (Bool×List Int))(v:Nat->Bool)(s:Nat):Option (Int×List Int):=
 if atC xs s=[]/\enabled es (s:Int)≠[]then some (1,[])else
 if atC xs s=enabled es (s:Int)then none else
 match befR es (DD es N) xs s with
 |some (x::r)=>some (2,x::r)
 |_=>((atC xs s).find? fun a=>v a.toNat).map fun a=>(3,[a])
def uF:Option (Int×Int×List Int)->U
 |none=> .st [uI 0,uI 0,rowU []]
 |some (s,k,l)=> .st [uI s,uI k,rowU l]
def uFb(b:Bool):Option (Int×Int×List Int)->U
 |none=> .st [uI 0,uI 0,uIs b []]
 |some (s,k,l)=> .st [uI s,uI k,uIs b l]
def tupF(s:Int)(o:Option (Int×List Int)):Option Rz:=some (.tup [uF (o.map fun q=>(s,q.1,q.2)), .c (.bool o.isSome)])
theorem Z1l{b:Bool}{l:List Int}{g:FuncId}{a c:List U}{p:Int->Bool}(hp: ∀n∈l,ycall M g (a++[uI n]++c)=some (.val (.c (.bool (p n)))))(hn:l.length<=1000000): ∀(d k:Nat),k+d=l.length->
  (∃(j:Nat) (x:Int),y82_1 M (uIs b l) (.fn g a c) (l.length:Int) (k:Int)=some (.val (uI (j:Int)))/\l[j]? =some x/\(l.drop k).find? p=some x)\/(y82_1 M (uIs b l) (.fn g a c) (l.length:Int) (k:Int)=some (.val (uI (-1)))/\(l.drop k).find? p=none):=by
 intro d
 induction d with
 |zero=>
  intro k hk
  rw[z0M,dL (by omega)]
  exact .inr ⟨by simp[show¬((k:Int)<l.length) by omega],rfl⟩
 |succ d ih=>
  intro k hk
  have hlt:k<l.length:=by omega
  have:=hp l[k] (lM hlt)
  simp only[uI]at this
  rw[z0M,q0c hlt,List.find?_cons]
  simp only[show((k:Int)<l.length) by omega,dY,iT,q0m (q0b hlt),oS,cell_c,asI_c,q0a (show k<=1000000000 by omega),U.asF,this,toU_val,asB_c]
  cases h0:p l[k]with
  |true=>exact .inl ⟨k,l[k],by simp,q0b hlt,rfl⟩
  |false=>exact ih (k+1) (by omega)
theorem q1F(r:List Int):U.isNil .slice (rowU r)=some r.isEmpty:=by
 cases r<;>rfl
theorem Q1n(r:List Int):U.one (rowU r)=some (rowU r):=rfl
theorem K1U(hM:HasBC M)(hN:N<=60)(he:es.length<=2000)(hok: ∀e∈es,eOK (N:Int) e=true)(hn:xs.length=N)(hx: ∀x∈xs,x.2.length<=1000000){s:Nat}(hs:s<N)(hch: ∀q∈atC xs s,0<=q/\q<12):
  y53 M (chX N u1 b2 es (DD es N) v b3 xs) (s:Int)=tupF (s:Int) (fault1 es N xs v s):=by
 obtain⟨w,w0,w1,w2,w3,w4⟩:=j0c (openU N u1 b2 es) (DD es N) v (uLs b3 xs)
 obtain⟨v',v0,v1,v2,v3,v4,v5⟩:=q0f N u1 b2 es
 obtain⟨b,hb⟩:=z0q (b3:=b3) (show s<xs.length by omega)
 have hlen:(atC xs s).length<=1000000:=j0E hx s
 obtain⟨r,hr⟩:=w0Z (N:=N) hN hok (D:=DD es N) (xs:=xs) hs
 have h81:=K1S (M:=M) (u1:=u1) (b2:=b2) (b3:=b3) (v:=v) hM hN he hok hn hx hs hch hr
 have h84:=X0m (M:=M) (u1:=u1) (b2:=b2) (b3:=b3) (D:=DD es N) (v:=v) hok hn hx hs
 have ho:U.one (chX N u1 b2 es (DD es N) v b3 xs)=some (chX N u1 b2 es (DD es N) v b3 xs):=rfl
 have w0':(chX N u1 b2 es (DD es N) v b3 xs).asR=some (w,0):=w0
 have hdead:decide ((0:Int)<((ixs gOut es s es.length).length:Int))= !decide (enabled es (s:Int)=[]):=by
  have:=J1C hok s
  unfold deadB at this
  cases h1:ixs gOut es s es.length with
  |nil=>rw[h1]at this;simp[List.isEmpty_iff.1 this]
  |cons y r'=>
   rw[h1]at this
   have:enabled es (s:Int)≠[]:=fun h=>by rw[h]at this;cases this
   simp[this]<;>omega
 have hlc:decide (((atC xs s).length:Int)=0)=decide (atC xs s=[]):=by
  rw[decide_eq_decide]
  cases atC xs s with
  |nil=>simp
  |cons=>simp<;>omega
 have hq:(if decide (((atC xs s).length:Int)=0)=true then some (decide ((0:Int)<((ixs gOut es s es.length).length:Int)))else some (decide (((atC xs s).length:Int)=0)))=some (decide (atC xs s=[]/\enabled es (s:Int)≠[])):=by
  rw[hlc,hdead]
  by_cases h1:atC xs s=[]<;>by_cases h2:enabled es (s:Int)=[]<;>simp[h1,h2]
 have h82:=Z1l (M:=M) (b:=b) (l:=atC xs s) (g:=83) (a:=[]) (c:=[.ref (.st [chX N u1 b2 es (DD es N) v b3 xs]) 0]) (p:=fun a=>v a.toNat) (fun c hc=>by
  obtain⟨c0,c1⟩:=hch c hc
  obtain⟨m,rfl⟩:=iZ c0
  rw[iN]
  exact K1M (M:=M) (u1:=u1) (b2:=b2) (b3:=b3) (es:=es) (N:=N) (D:=DD es N) (v:=v) (xs:=xs) (a:=m) (by omega)) hlen _ 0 (Nat.zero_add _)
 rw[List.drop_zero,show((0:Nat):Int)=0 from rfl]at h82
 rw[W1q]
 simp only[ho,w0',w1,w2,hb,oS,cell_uIs,len_uIs,v0,v4,J1t hs,cell_rowU,len_rowU]
 rw[hq]
 unfold fault1
 by_cases h1:atC xs s=[]/\enabled es (s:Int)≠[]
 ·simp only[h1,not_false_eq_true,ne_eq,and_self,dY,oS,iT]
  rfl
 simp only[h1,dF,oS,bF,iF,h81,toU_val,Q1n,q1F,hr]
 by_cases h2:atC xs s=enabled es (s:Int)
 ·have hr0:r=[]:=by
   unfold befR at hr
   rw[if_pos h2]at hr
   cases hr;rfl
  subst hr0
  rw[if_pos h2]
  simp only[h2,dY]at h84
  rcases h82 with⟨j,x,k1,k2,k3⟩ |⟨k1,k3⟩
  ·simp only[List.isEmpty_nil,bne_self_eq_false,bF,iF,Q0X,len_uIs,oS,k1,toU_val,asI_uI,show(0:Int)<=(j:Int) by omega,dY,iT,h84,asB_c,Bool.not_true]
   rfl
  ·simp only[List.isEmpty_nil,bne_self_eq_false,bF,iF,Q0X,len_uIs,oS,k1,toU_val,asI_uI,show¬((0:Int)<= -1) by omega,dF]
   rfl
 rw[if_neg h2]
 simp only[h2,dF]at h84
 cases r with
 |cons x r=>
  simp only[List.isEmpty_cons,Bool.false_bne,iT]
  rfl
 |nil=>
  rcases h82 with⟨j,x,k1,k2,k3⟩ |⟨k1,k3⟩
  ·simp only[List.isEmpty_nil,bne_self_eq_false,bF,iF,Q0X,len_uIs,oS,k1,toU_val,asI_uI,show(0:Int)<=(j:Int) by omega,dY,iT,h84,asB_c,Bool.not_false,q0m k2,cell_c,asI_c,k3,Option.map_some]
   rfl
  ·simp only[List.isEmpty_nil,bne_self_eq_false,bF,iF,Q0X,len_uIs,oS,k1,toU_val,asI_uI,show¬((0:Int)<= -1) by omega,dF,k3,Option.map_none]
   rfl
def faultA(es:List E3)(N:Nat)(xs:List (Bool×List Int))(v:Nat->Bool):Nat->Nat->Option (Int×Int×List Int)
 | 0,_=>none
 |d+1,s=>match fault1 es N xs v s with
  |some (k,l)=>some ((s:Int),k,l)
  |none=>faultA es N xs v d (s+1)
def faultB(es:List E3)(xs:List (Bool×List Int)):Nat->Nat->Option (Int×Int×List Int)
 | 0,_=>none
 |d+1,s=>match cirR es xs s with
  |some (x::r)=>some ((s:Int),4,x::r)
  |_=>faultB es xs d (s+1)
def faultAll(es:List E3)(N:Nat)(xs:List (Bool×List Int))(v:Nat->Bool):Option (Int×Int×List Int):=
 match faultA es N xs v N 0 with
 |some q=>some q
 |none=>faultB es xs N 0
theorem z1Z: ∀{d s:Nat},formErr es xs d s=0-> ∀k,s<=k->k<s+d-> ∀q∈atC xs k,q∈enabled es (k:Int)
 | 0,s,_,k,h1,h2=>by omega
 |d+1,s,h,k,h1,h2=>by
  simp only[formErr]at h
  split at h
  ·rename_i h0
   by_cases hk:k=s
   ·subst hk
    intro q hq
    unfold setErr at h0
    split at h0
    ·split at h0
     ·rename_i h4
      have:=List.all_eq_true.1 h4 q hq
      simpa using this
     ·cases h0
    ·cases h0
   ·exact z1Z h k (by omega) (by omega)
  ·rename_i h0;exact absurd h h0
theorem Z1m(h:cErr (N:Int) es xs=0):xs.length=N/\ ∀s,s<N-> ∀q∈atC xs s,0<=q/\q<12:=by
 unfold cErr at h
 split at h
 ·rename_i h0
  have hl:xs.length=N:=by omega
  refine⟨hl,fun s hs q hq=> ?_⟩
  have:=z1Z h s (Nat.zero_le _) (by omega) q hq
  obtain⟨j,_,h2,rfl,_⟩:=mem_picks.1 this
  omega
 ·cases h
theorem Q1o{g0:Int}(hn:xs.length=N)(hx: ∀x∈xs,x.2.length<=1000000){s:Nat}(hs:s<N)(hN:N<=60){z0 z1:Int}{z2 free shown:Sx}{sh:List Int}(hsh:shown.es=sh.map uI)(hsl:sh.length<=1000000): ∀(d i:Nat),i+d=(atC xs s).length->
  y21_2 M (uLs b3 xs) g0 g1 (uEs b2 es) z0 z1 (s:Int) (i:Int) z2 free shown=match((atC xs s).drop i).find? (fun a=>decide (a∈sh))with
   |some a=>some (.tup [uFb true (some ((s:Int),3,[a])), .c (.bool true)])
   |none=>y21_1 M (uLs b3 xs) g0 g1 (uEs b2 es) z0 z1 ((s+1:Nat):Int) z2 free shown:=by
 obtain⟨b,hb⟩:=z0q (b3:=b3) (show s<xs.length by omega)
 have hlen:(atC xs s).length<=1000000:=j0E hx s
 have hfz:shown.fz=uIs shown.b sh:=by unfold Sx.fz uIs;rw[hsh]
 intro d
 induction d with
 |zero=>
  intro i hi
  rw[X0N,dL (by omega)]
  simp only[hb,oS,cell_uIs,len_uIs,show¬((i:Int)<((atC xs s).length:Int)) by omega,dF,bF,iF,List.find?_nil,q0a (show s<=1000000000 by omega)]
 |succ d ih=>
  intro i hi
  have hlt:i<(atC xs s).length:=by omega
  rw[X0N,q0c hlt,List.find?_cons]
  simp only[hb,oS,cell_uIs,len_uIs,show((i:Int)<((atC xs s).length:Int)) by omega,dY,iT,q0m (q0b hlt),cell_c,asI_c,hfz,z0N hsl,toU_val,asB_c,q0a (show i<=1000000000 by omega),ih (i+1) (by omega)]
  by_cases h:(atC xs s)[i]∈sh
  ·simp only[h,dY,iT]
   rfl
  ·simp only[h,dF,bF,iF]
theorem Q1p(hN:N<=60)(he:es.length<=2000)(hok: ∀e∈es,eOK (N:Int) e=true)(hn:xs.length=N)(hx: ∀x∈xs,x.2.length<=1000000){z0 z1:Int}{z2:Sx}: ∀(d s:Nat),s+d=N->
  ∃b,y21_3 M (uLs b3 xs) (N:Int) g1 (uEs b2 es) z0 z1 (s:Int) z2=some (.tup [uFb b (faultB es xs d s), .c (.bool (faultB es xs d s).isSome)]):=by
 intro d
 induction d with
 |zero=>
  intro s hs
  rw[X0O]
  simp only[show¬((s:Int)<(N:Int)) by omega,dF,bF,iF,faultB]
  exact⟨false,rfl⟩
 |succ d ih=>
  intro s hs
  obtain⟨r,hr⟩:=k0q (N:=N) hN hok (xs:=xs) (show s<N by omega)
  obtain⟨o,o1,o2⟩:=Z1U (M:=M) (b2:=b2) (b3:=b3) (g0:=(N:Int)) (g1:=g1) hN hok hn hx he (show s<N by omega) hr
  obtain⟨b,hb⟩:=ih (s+1) (by omega)
  rw[X0O]
  simp only[show((s:Int)<(N:Int)) by omega,dY,iT,o1,asSl_sl,oS,o2.len,o2.fz,faultB,hr,q0a (show s<=1000000000 by omega),hb]
  cases r with
  |nil=>exact⟨b,rfl⟩
  |cons x r=>
   simp only[List.length_cons,show((0:Int)<((r.length+1:Nat):Int)) by omega,dY,iT]
   exact⟨o.b,rfl⟩
theorem Q1q(hN:N<=60)(he:es.length<=2000)(hok: ∀e∈es,eOK (N:Int) e=true)(hs:es.Pairwise lt3)(hn:xs.length=N)(hx: ∀x∈xs,x.2.length<=1000000)(hch: ∀s,s<N-> ∀q∈atC xs s,0<=q/\q<12){z0 z1:Int}{z2 free shown:Sx}{bs:List (Bool×List Int)}{fb:Bool}(hfz:free.fz=uLs fb bs)(hb:bs.map (·.2)=rows es N 12)(hsh:shown.es=(picks v 12 0).map uI): ∀(d s:Nat),s+d=N->
  ∃b,y21_1 M (uLs b3 xs) (N:Int) g1 (uEs b2 es) z0 z1 (s:Int) z2 free shown=match faultA es N xs v d s with
   |some q=>some (.tup [uFb b (some q), .c (.bool true)])
   |none=>some (.tup [uFb b (faultB es xs N 0), .c (.bool (faultB es xs N 0).isSome)]):=by
 have hpl:=j0K v 12 0
 intro d
 induction d with
 |zero=>
  intro s hs'
  obtain⟨b,hb⟩:=Q1p (M:=M) (b2:=b2) (b3:=b3) (g1:=g1) (z0:=z0) (z1:=z1) (z2:=z2) hN he hok hn hx N 0 (by omega)
  rw[X0M]
  simp only[show¬((s:Int)<(N:Int)) by omega,dF,bF,iF,faultA]
  exact⟨b,hb⟩
 |succ d ih=>
  intro s hs'
  have hsN:s<N:=by omega
  obtain⟨bx,hbx⟩:=z0q (b3:=b3) (show s<xs.length by omega)
  have hlen:(atC xs s).length<=1000000:=j0E hx s
  obtain⟨e,e1,e2⟩:=W0e (M:=M) (b2:=b2) he (g0:=(N:Int)) (x:=(s:Int)) (g1:=g1)
  obtain⟨r,hr⟩:=w0Z (N:=N) hN hok (D:=DD es N) (xs:=xs) hsN
  have h56:=q1Q (M:=M) (b2:=b2) (b3:=b3) (g0:=(N:Int)) (g1:=g1) he hx (show s<xs.length by omega)
  have h212:=Q1o (M:=M) (b2:=b2) (b3:=b3) (g0:=(N:Int)) (g1:=g1) (z0:=z0) (z1:=z1) (z2:=z2) (free:=free) (es:=es) hn hx hsN hN hsh (by omega) _ 0 (Nat.zero_add _)
  rw[List.drop_zero,show((0:Nat):Int)=0 from rfl]at h212
  obtain⟨b,ih'⟩:=ih (s+1) (by omega)
  have hle:decide ((0:Int)<((enabled es (s:Int)).length:Int))= !decide (enabled es (s:Int)=[]):=by
   cases enabled es (s:Int)with
   |nil=>simp
   |cons=>simp<;>omega
  have hlc:decide (((atC xs s).length:Int)=0)=decide (atC xs s=[]):=by
   rw[decide_eq_decide]
   cases atC xs s with
   |nil=>simp
   |cons=>simp<;>omega
  have hq:(if decide (((atC xs s).length:Int)=0)=true then some (decide ((0:Int)<((enabled es (s:Int)).length:Int)))else some (decide (((atC xs s).length:Int)=0)))=some (decide (atC xs s=[]/\enabled es (s:Int)≠[])):=by
   rw[hlc,hle]
   by_cases h1:atC xs s=[]<;>by_cases h2:enabled es (s:Int)=[]<;>simp[h1,h2]
  have hfind:(atC xs s).find? (fun a=>decide (a∈picks v 12 0))=(atC xs s).find? fun a=>v a.toNat:=by
   have: ∀l:List Int,(∀q∈l,0<=q/\q<12)->l.find? (fun a=>decide (a∈picks v 12 0))=l.find? fun a=>v a.toNat:=by
    intro l
    induction l with
    |nil=>intro _;rfl
    |cons q l ihl=>
     intro h
     obtain⟨q0,q1⟩:=h q (by simp)
     obtain⟨m,rfl⟩:=iZ q0
     have hqv:decide ((m:Int)∈picks v 12 0)=v m:=by
      rw[Bool.eq_iff_iff,dE,mem_picks]
      constructor
      ·rintro⟨j,_,_,h3,h4⟩
       have:j=m:=by omega
       subst this;exact h4
      ·intro h
       exact⟨m,by omega,by omega,rfl,h⟩
     rw[List.find?_cons,List.find?_cons,hqv,iN,ihl fun q hq=>h q (by simp[hq])]
   exact this _ (hch s hsN)
  rw[hfind]at h212
  rw[X0M]
  simp only[show((s:Int)<(N:Int)) by omega,dY,iT,e1,asSl_sl,oS,e2.len,hbx,cell_uIs,len_uIs]
  rw[hq]
  unfold faultA fault1
  by_cases h1:atC xs s=[]/\enabled es (s:Int)≠[]
  ·simp only[h1,not_false_eq_true,ne_eq,and_self,dY,oS,iT]
   exact⟨false,rfl⟩
  simp only[h1,dF,oS,bF,iF,h56,toU_val,asB_c]
  by_cases h2:atC xs s=enabled es (s:Int)
  ·simp only[h2,dY,iT,q0a (show s<=1000000000 by omega)]
   exact⟨b,ih'⟩
  obtain⟨o,o1,o2⟩:=K1E (M:=M) (b2:=b2) (g0:=(N:Int)) (g1:=g1) (bf:=fb) (bl:=bx) hN hok hs hb hsN (hch s hsN) hlen he h2 hr
  simp only[h2,dF,bF,iF,hfz,o1,oS,asSl_sl,o2.len,o2.fz,hr]
  cases r with
  |cons x r=>
   simp only[List.length_cons,show((0:Int)<((r.length+1:Nat):Int)) by omega,dY,iT]
   exact⟨o.b,rfl⟩
  |nil=>
   simp only[List.length_nil,show¬((0:Int)<((0:Nat):Int)) by omega,dF,bF,iF,h212]
   cases(atC xs s).find? fun a=>v a.toNat with
   |some a=>exact⟨true,rfl⟩
   |none=>exact⟨b,ih'⟩
theorem K1V(hN:N<=60)(he:es.length<=2000)(hok: ∀e∈es,eOK (N:Int) e=true)(hs:es.Pairwise lt3)(hn:xs.length=N)(hx: ∀x∈xs,x.2.length<=1000000)(hch: ∀s,s<N-> ∀q∈atC xs s,0<=q/\q<12)(hlab:lab.length=N):
  ∃b,y21 M (N:Int) g1 (uEs b2 es) (uIs b1 lab) (uLs b3 xs)=some (.tup [uFb b (faultAll es N xs (visB lab es)), .c (.bool (faultAll es N xs (visB lab es)).isSome)]):=by
 obtain⟨s,j1,j2⟩:=Q1Z (M:=M) (b2:=b2) (g1:=g1) hN he hok
 obtain⟨bs,e1,e2⟩:=j1.fz
 obtain⟨t,t1,t2⟩:=J1d (M:=M) (b2:=b2) (b3:=b1) (g0:=(N:Int)) (g1:=g1) hlab he hok
 obtain⟨b,hb⟩:=Q1q (M:=M) (b2:=b2) (b3:=b3) (g1:=g1) (v:=visB lab es) (z0:=0) (z1:=0) (z2:=⟨false,0,[]⟩) hN he hok hs hn hx hch e1 e2 t2 N 0 (by omega)
 rw[show((0:Nat):Int)=0 from rfl]at hb
 rw[W1d]
 simp only[j2,t1,oS,asSl_sl,hb]
 refine⟨b, ?_⟩
 unfold faultAll
 cases faultA es N xs (visB lab es) N 0<;>rfl
end
end Go.Proofs.Ythjjbkiejkhjfaa.R
