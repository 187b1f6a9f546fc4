/- - -/
import Derived.Test.YthjjbkiejkhjfaaPb
set_option linter.all false
namespace Go.Proofs.Ythjjbkiejkhjfaa.R
open Go Go.Proofs.Ythjjbkiejkhjfaa.Vm
section
variable{N:Nat}{lim km:Nat}{H0 H1:Heap}{F0 F1:Nat->Prop}{es:List E3}{u1:U}{b2 b3:Bool}{D:Nat->Nat->Bool}{v:Nat->Bool}{xs:List (Bool×List Int)}
theorem k1x(hl:lim<=H0.next)(hF0: ∀i,F0 i->i<H0.next)(he:es.length<=2000)(hok: ∀e∈es,eOK (N:Int) e=true)(hn:xs.length=N)(hx: ∀x∈xs,x.2.length<=1000000){s:Nat}(hs:s<N)(hch: ∀q∈atC xs s,0<=q/\q<12)
  {c lc:C} {ic is:Nat} {known:C} {layer:List PE} {bl:Bool}
  (hic:H0.get ic=some (.cells 1 [c])) (hicF:F0 ic) (his:H0.get is=some (.cells 1 [.int .i64 (s:Int)])) (hisF:F0 is) (hc:UC H0 F0 (chX N u1 b2 es D v b3 xs) [c])
  (hm:UC H0 F0 (.sl bl (layer.map uP)) [lc]) (hlay: ∀p∈layer,okP N p) (hll:layer.length<=10000):
  ∀(d k:Nat) (H:Heap) (F:Nat->Prop) (best:Option (List Int)) (bc:C),k+d=layer.length->FrX none H0 F0 H F->BestR H F best bc->
  ∃H' F' bc',FrX none H0 F0 H' F'/\BestR H' F' (bestL es (condB D xs s) (layer.drop k) best) bc'/\
   f81_2 (MH lim) (.ptr ic 0) (.ptr is 0) (.func 100 [] [.ptr ic 0, .ptr is 0]) known lc bc lc (layer.length:Int) (k:Int) H=
   if(bestL es (condB D xs s) (layer.drop k) best).isSome=true then some (.c bc',H')else
    (f87 (MH lim) c lc known (.func 104 [] [.ptr ic 0, .ptr is 0]) H').bind fun q13=>(V.asC q13.1).bind fun c14=>f81_1 (MH lim) (.ptr ic 0) (.ptr is 0) (.func 100 [] [.ptr ic 0, .ptr is 0]) known c14 q13.2:=by
 intro d
 induction d with
 |zero=>
  intro k H F best bc hk A hb
  have B:=A.le0 hF0
  have q1:H.ld ic 0=some c:=ldX (by rw[B.same ic hicF];exact hic) rfl
  rw[W0D,dL (by omega)]
  refine⟨H,F,bc,A,hb, ?_⟩
  simp only[show¬((k:Int)<(layer.length:Int)) by omega,dF,bF,iF,hb.isNil,oS,bestL,List.foldl_nil,V.asP,V.asC,q1]
  cases best<;>simp
 |succ d ih=>
  intro k H F best bc hk A hb
  have hlt:k<layer.length:=by omega
  have hlim:lim<=H.next:=nT hl A.next
  have hF:=A.lt
  have B:FLe H0 F0 H F:=A.le0 hF0
  obtain⟨i,o,z,cs,e1,_,e3,e4,e5⟩:=(hm.mono B).elem (k:=k) (u:=uP layer[k]) (by simp[hlt])
  rw[show U.size (uP layer[k])=2 from rfl]at e1 e4 e5
  obtain⟨c2,e6,e7⟩:=k1Q e5
  have l0:=ldX e3 (j0P e6)
  have l1:=ldX e3 (j0Q e6)
  obtain⟨⟨t,ht,htN⟩,hpl⟩:=hlay _ (lM hlt)
  have q1:H.ld ic 0=some c:=ldX (by rw[B.same ic hicF];exact hic) rfl
  obtain⟨w,w1,w2⟩:=z1y (M:=MM) (u1:=u1) (b2:=b2) (b3:=b3) (D:=D) (v:=v) (xs:=xs) he hok htN
  obtain⟨v2,H2,F2,d1,d2,d3⟩:=z0V (lim:=lim) (f:=102) (us:=[chX N u1 b2 es D v b3 xs,uI (t:Int)]) (vs:=[.c c, .c (.int .i64 (t:Int))]) w1 rfl hlim hF
   ⟨_,_,rfl,⟨rfl,hc.mono B⟩,_,_,rfl,z0o _,rfl⟩
  rw[w2.fz]at d3
  obtain⟨c6,rfl,d4⟩:=d3.one rfl
  have d1':f102 (MH lim) c (t:Int) H=some (.c c6,H2):=d1
  have A2:=A.trans d2
  have B2:FLe H0 F0 H2 F2:=A2.le0 hF0
  have hml:=J1a he (t:Int)
  obtain⟨H3,F3,bc3,g1,g2,g3⟩:=w1i (lim:=lim) (H0:=H2) (F0:=F2) (N:=N) (es:=es) (u1:=u1) (b2:=b2) (b3:=b3) (D:=D) (v:=v) (xs:=xs) (s:=s) (c:=c) (ic:=ic) (is:=is) (known:=known) (layer:=lc) (x29:=lc) (x30:=(layer.length:Int)) (x31:=(k:Int)) (p0:=c2) (p:=layer[k]) (ms:=mv es (t:Int)) (bm:=w.b) (mc:=c6)
   (nT hlim d2.next) A2.lt hn hx hs hch (fun x hx=>hok x (z0Q hx).1) (by rw[B2.same ic hicF];exact hic) (B2.sub ic hicF) (by rw[B2.same is hisF];exact his) (B2.sub is hisF) (hc.mono B2) (e7.mono (d2.le0 hF)) d4 hpl (by omega) _ 0 H2 F2 best bc (Nat.zero_add _) (.refl A2.lt) (hb.mono (d2.le0 hF))
  rw[List.drop_zero]at g3
  obtain⟨H',F',bc',j1,j2,j3⟩:=ih (k+1) H3 F3 _ bc3 (by omega) (A2.trans g2) g3
  rw[W0D,q0c hlt]
  have hlen:C.len c6=some (mv es (t:Int)).length:=by have:=UC.lenC (us:=(mv es (t:Int)).map uE) d4;simpa using this
  have hbl: ∀r,bestL es (condB D xs s) (layer[k]::r) best=bestL es (condB D xs s) r ((mv es (t:Int)).foldl (bestStep (condB D xs s) layer[k]) best):=fun r=>by unfold bestL;rw[List.foldl_cons,ht]
  rw[show((0:Nat):Int)=0 from rfl,ht,q0a (show k<=1000000000 by omega),j3]at g1
  rw[hbl]
  refine⟨H',F',bc',j1,j2, ?_⟩
  simp only[show((k:Int)<(layer.length:Int)) by omega,dY,iT,e1,oS,l0,l1,C.asI,ht,V.asP,V.asC,q1,d1',hlen,g1]
def befF(es:List E3)(D:Nat->Nat->Bool)(xs:List (Bool×List Int))(s:Nat):Nat->List Int->List PE->Option (List Int)
 | 0,_,_=>none
 |f+1,ks,layer=>if layer=[]then some []else match bestL es (condB D xs s) layer none with
  |some b=>some b
  |none=>befF es D xs s f (nextL es (fun x=> !decide (x.a∈atC xs s)) layer (ks,[])).1 (nextL es (fun x=> !decide (x.a∈atC xs s)) layer (ks,[])).2
def okL(N m:Nat)(layer:List PE):Prop:= ∀p∈layer,(∃s:Nat,p.2=(s:Int)/\s<N)/\p.1.length<=m
theorem W0d(hok: ∀e∈es,eOK (N:Int) e=true){ok:E3->Bool}{m:Nat}{p:PE}(hp:p.1.length<=m): ∀(ms:List E3),(∀x∈ms,x∈es)-> ∀st:List Int×List PE,okL N (m+2) st.2->okL N (m+2) (ms.foldl (step3 ok p) st).2
 | [],_,st,h=>h
 |x::ms,hx,st,h=>by
  refine W0d hok hp ms (fun y hy=>hx y (by simp[hy])) _ ?_
  unfold step3
  split
  ·intro q hq
   rcases mA.1 hq with hq |hq
   ·exact h q hq
   ·simp only[mC,List.not_mem_nil,or_false]at hq
    subst hq
    obtain⟨_,h5,h6⟩:=q0w (hok x (hx x (by simp)))
    exact⟨⟨x.t.toNat,by simp only;omega,by omega⟩,by simp only[List.length_append,List.length_cons,List.length_nil];omega⟩
  ·exact h
theorem w0o(hok: ∀e∈es,eOK (N:Int) e=true){ok:E3->Bool}{m:Nat}: ∀(layer:List PE),okL N m layer-> ∀st:List Int×List PE,okL N (m+2) st.2->okL N (m+2) (nextL es ok layer st).2
 | [],_,st,h=>h
 |p::layer,hl,st,h=>by
  unfold nextL
  rw[List.foldl_cons]
  exact w0o hok layer (fun q hq=>hl q (by simp[hq])) _ (W0d hok (hl p (by simp)).2 _ (fun x hx=>(z0Q hx).1) st h)
theorem z0x{ok:E3->Bool}{p:PE}: ∀(ms:List E3) (st:List Int×List PE),(ms.foldl (step3 ok p) st).1.length+st.2.length=(ms.foldl (step3 ok p) st).2.length+st.1.length
 | [],st=>Nat.add_comm _ _
 |x::ms,st=>by
  have:=z0x (ok:=ok) (p:=p) ms (step3 ok p st x)
  have h2:(step3 ok p st x).1.length+st.2.length=(step3 ok p st x).2.length+st.1.length:=by
   unfold step3
   split
   ·simp;omega
   ·omega
  simp only[List.foldl_cons]
  omega
theorem z0y{ok:E3->Bool}: ∀(layer:List PE) (st:List Int×List PE),(nextL es ok layer st).1.length+st.2.length=(nextL es ok layer st).2.length+st.1.length
 | [],st=>Nat.add_comm _ _
 |p::layer,st=>by
  have h1:=z0x (ok:=ok) (p:=p) (mv es p.2) st
  have h2:=z0y (ok:=ok) layer ((mv es p.2).foldl (step3 ok p) st)
  unfold nextL at h2⊢
  rw[List.foldl_cons]
  omega
theorem j0r(hok: ∀e∈es,eOK (N:Int) e=true){ok:E3->Bool}{p:PE}: ∀(ms:List E3),(∀x∈ms,x∈es)-> ∀st:List Int×List PE,(st.1.Nodup/\ ∀k∈st.1,0<=k/\k<(N:Int))->((ms.foldl (step3 ok p) st).1.Nodup/\ ∀k∈(ms.foldl (step3 ok p) st).1,0<=k/\k<(N:Int))
 | [],_,st,h=>h
 |x::ms,hx,st,h=>by
  refine j0r hok ms (fun y hy=>hx y (by simp[hy])) _ ?_
  unfold step3
  split
  ·rename_i hc
   simp only[bA,bN,dN]at hc
   obtain⟨_,h5,h6⟩:=q0w (hok x (hx x (by simp)))
   refine⟨List.nodup_append.2 ⟨h.1,by simp,fun a ha b hb=> ?_⟩,fun k hk=> ?_⟩
   ·simp only[mC,List.not_mem_nil,or_false]at hb
    subst hb
    exact fun e=>hc.2 (by rw[<-e];exact ha)
   ·rcases mA.1 hk with hk |hk
    ·exact h.2 k hk
    ·simp only[mC,List.not_mem_nil,or_false]at hk
     subst hk;exact⟨h5,h6⟩
  ·exact h
theorem q0V(hok: ∀e∈es,eOK (N:Int) e=true){ok:E3->Bool}: ∀(layer:List PE) (st:List Int×List PE),(st.1.Nodup/\ ∀k∈st.1,0<=k/\k<(N:Int))->((nextL es ok layer st).1.Nodup/\ ∀k∈(nextL es ok layer st).1,0<=k/\k<(N:Int))
 | [],st,h=>h
 |p::layer,st,h=>by
  unfold nextL
  rw[List.foldl_cons]
  exact q0V hok layer _ (j0r hok _ (fun x hx=>(z0Q hx).1) st h)
theorem j0n: ∀{N:Nat} {l:List Int},(l.Nodup/\ ∀k∈l,0<=k/\k<(N:Int))->l.length<=N
 | 0,l,h=>by
  cases l with
  |nil=>exact nR _
  |cons a l=>have:=h.2 a (by simp);omega
 |N+1,l,h=>by
  by_cases hm:(N:Int)∈l
  ·have:=j0n (N:=N) (l:=l.erase (N:Int)) ⟨h.1.erase _,fun k hk=>by
    have hk2:=(h.1.mem_erase_iff).1 hk
    have:=h.2 k hk2.2
    have:k≠(N:Int):=hk2.1
    omega⟩
   rw[List.length_erase_of_mem hm]at this
   omega
  ·have:=j0n (N:=N) (l:=l) ⟨h.1,fun k hk=>by
    have:=h.2 k hk
    have:k≠(N:Int):=fun e=>hm (by rw[<-e];exact hk)
    omega⟩
   omega
end
end Go.Proofs.Ythjjbkiejkhjfaa.R
