/- - -/
import Derived.Test.YthjjbkiejkhjfaaWq
set_option linter.all false
namespace Go.Proofs.Ythjjbkiejkhjfaa.R
open Go Go.Proofs.Ythjjbkiejkhjfaa.Vm
variable{M:YM}
section
variable{N:Nat}{b1 b2 b3:Bool}{es:List E3}{xs:List (Bool×List Int)}{g1:U}{g0:Int}
theorem q1Q(he:es.length<=2000)(hx: ∀x∈xs,x.2.length<=1000000){s:Nat}(hs:s<xs.length):y56 M g0 g1 (uEs b2 es) (uLs b3 xs) (s:Int)=some (.val (.c (.bool (decide (atC xs s=enabled es (s:Int)))))):=by
 obtain⟨b,hb⟩:=z0q (b3:=b3) hs
 obtain⟨o,o1,o2⟩:=W0e (M:=M) (b2:=b2) he (g0:=g0) (x:=(s:Int)) (g1:=g1)
 have hlen:(atC xs s).length<=1000000:=j0E hx s
 rw[W1s]
 simp only[hb,oS,cell_uIs,o1,asSl_sl,o2.fz,K1g hlen,toU_val,asB_c]
theorem q1R{e:E3}{f t:Nat}(hf:e.f=(f:Int))(ht:e.t=(t:Int)):okC es xs e=(decide (e.a∈atC xs f)&& !decide (atC xs t=enabled es (t:Int))):=by
 unfold okC
 rw[hf,ht,iN,iN]
theorem k1C(hN:N<=60)(hok: ∀e∈es,eOK (N:Int) e=true)(hn:xs.length=N)(hx: ∀x∈xs,x.2.length<=1000000)(he:es.length<=2000){s:Int}{paths l:Sx}{layer:List PE}(hp:SxP paths layer)(hll:layer.length<=10000){i:Nat}(hi:i<layer.length)(hpl:layer[i].1.length<=900000)(hl:SxI l (ixF es layer[i].2 12 0)):
  ∀(d k:Nat) (seen next:Sx) (ks:List Int) (rows:List PE),k+d=(ixF es layer[i].2 12 0).length->SxI seen ks->SxP next rows->(ks.Nodup/\ ∀q∈ks,0<=q/\q<(N:Int))->rows.length<=ks.length->
  match((mv es layer[i].2).drop k).find? (fun x=>okC es xs x&&decide (x.t=s))with
  |some x=> ∃o,y58_3 M (uLs b3 xs) s g0 g1 (uEs b2 es) (i:Int) layer[i].2 (k:Int) paths seen next l=some (.sl o)/\SxI o (layer[i].1++[x.a,x.t])
  |none=> ∃seen' next',SxI seen' (((mv es layer[i].2).drop k).foldl (step3 (okC es xs) layer[i]) (ks,rows)).1/\SxP next' (((mv es layer[i].2).drop k).foldl (step3 (okC es xs) layer[i]) (ks,rows)).2/\
   y58_3 M (uLs b3 xs) s g0 g1 (uEs b2 es) (i:Int) layer[i].2 (k:Int) paths seen next l=y58_2 M (uLs b3 xs) s g0 g1 (uEs b2 es) ((i+1:Nat):Int) paths seen' next':=by
 have hlen:=J0B (es:=es) layer[i].2 12 0
 have hml:=Q0j (es:=es) layer[i].2
 obtain⟨p1,p2⟩:=hp.get hi
 intro d
 induction d with
 |zero=>
  intro k seen next ks rows hk h1 h2 _ _
  rw[dL (by omega),Y0u]
  simp only[hl.len,show¬((k:Int)<(((ixF es layer[i].2 12 0).length:Nat):Int)) by omega,dF,bF,iF,List.find?_nil,q0a (show i<=1000000000 by omega)]
  exact⟨seen,next,h1,h2,rfl⟩
 |succ d ih=>
  intro k seen next ks rows hk hsn hnx hnd hrk
  have hlt:k<(ixF es layer[i].2 12 0).length:=by omega
  obtain⟨j,e,h1,h2,h3,h4⟩:=K0P hlt
  obtain⟨l1,l2⟩:=hl.get hlt
  obtain⟨f,f0,f1,f2,f3⟩:=q0t e
  have hmem:e∈mv es layer[i].2:=by rw[<-h4];exact lM h3
  have hef:e.f=layer[i].2:=(z0Q hmem).2
  obtain⟨⟨q1,q2,_,_⟩,q5,q6⟩:=q0w (hok e (List.mem_of_getElem? h2))
  obtain⟨ff,hff⟩:=iZ q1
  obtain⟨tt,htt⟩:=iZ q5
  obtain⟨b,hb⟩:=z0q (b3:=b3) (show ff<xs.length by omega)
  have hcl:(atC xs ff).length<=1000000:=j0E hx ff
  have hks:=j0n hnd
  have h39:=z0N (M:=M) (b1:=seen.b) (l:=ks) (v:=e.t) (by omega)
  have h56:=q1Q (M:=M) (b2:=b2) (b3:=b3) (g0:=g0) (g1:=g1) he hx (show tt<xs.length by omega)
  have hokc:=q1R (es:=es) (xs:=xs) hff htt
  obtain⟨so,so',q3,q4,q7,q8⟩:=z1p (M:=M) (p:=layer[i].1) (x:=e.a) (y:=e.t) hpl
  have hq:(if(!decide (e.a∈atC xs ff))=false then
    (y56 M g0 g1 (uEs b2 es) (uLs b3 xs) e.t).bind fun r11=>
    (Rz.toU r11).bind fun u12=>
    (U.asB u12).bind fun b13=>some b13
    else some (!decide (e.a∈atC xs ff)))=some (!okC es xs e):=by
   rw[hokc]
   by_cases hm:e.a∈atC xs ff
   ·rw[htt];simp[hm,h56]
   ·simp[hm]
  have heq:y58_3 M (uLs b3 xs) s g0 g1 (uEs b2 es) (i:Int) layer[i].2 (k:Int) paths seen next l=if okC es xs e=false then y58_3 M (uLs b3 xs) s g0 g1 (uEs b2 es) (i:Int) layer[i].2 ((k+1:Nat):Int) paths seen next l else
    if e.t=s then some (.sl so')else if e.t∈ks then y58_3 M (uLs b3 xs) s g0 g1 (uEs b2 es) (i:Int) layer[i].2 ((k+1:Nat):Int) paths seen next l else
    (Sx.app seen 1 [.c (.int .i64 e.t)]).bind fun s23=>(Sx.app next 1 [Sx.fz so']).bind fun s29=>y58_3 M (uLs b3 xs) s g0 g1 (uEs b2 es) (i:Int) layer[i].2 ((k+1:Nat):Int) paths s23 s29 l:=by
   rw[Y0u]
   simp only[hl.len,show((k:Int)<(((ixF es layer[i].2 12 0).length:Nat):Int)) by omega,dY,iT,l1,l2,oS,cell_c,asI_c,h1,q0l h2,f0,f1,f2,f3,i_uI]
   rw[<-hef,hff]
   simp only[hb,oS,cell_uIs,z0N hcl,toU_val,asB_c]
   rw[hq]
   simp only[oS,p1,iT,p2,cell_uIs,q3,asSl_sl,q4,hsn.fz,h39,toU_val,asB_c,Q1G,q0a (show k<=1000000000 by omega),q7.scals]
   cases okC es xs e with
   |false=>simp
   |true=>
    by_cases ht:e.t=s
    ·simp[ht]
    ·by_cases hk2:e.t∈ks<;>simp[ht,hk2]
  rw[q0c h3,List.find?_cons,List.foldl_cons,h4]
  cases hc:okC es xs e with
  |false=>
   have hst:step3 (okC es xs) layer[i] (ks,rows) e=(ks,rows):=by simp[step3,hc]
   simp only[Bool.false_and,hst]
   rw[heq,if_pos hc]
   exact ih (k+1) seen next ks rows (by omega) hsn hnx hnd hrk
  |true=>
   rw[heq,if_neg (by rw[hc];simp)]
   by_cases ht:e.t=s
   ·simp only[ht,dY,Bool.and_self,iT]
    rw[ht]at q7
    exact⟨so',rfl,q7⟩
   ·simp only[ht,dF,Bool.and_false,iF]
    by_cases hk2:e.t∈ks
    ·have hst:step3 (okC es xs) layer[i] (ks,rows) e=(ks,rows):=by simp[step3,hk2]
     simp only[hk2,iT,hst]
     exact ih (k+1) seen next ks rows (by omega) hsn hnx hnd hrk
    ·have hst:step3 (okC es xs) layer[i] (ks,rows) e=(ks++[e.t],rows++[rowOf layer[i] e]):=by simp[step3,hc,hk2,rowOf]
     obtain⟨sn',t1,t2⟩:=hsn.app e.t (by omega)
     obtain⟨nx',t7,t8⟩:=hnx.app (p:=rowOf layer[i] e) q7 q8 (by omega)
     have hnd':=j0r hok (ok:=okC es xs) (p:=layer[i]) [e] (fun x hx=>by simp only[mC,List.not_mem_nil,or_false]at hx;subst hx;exact List.mem_of_getElem? h2) (ks,rows) hnd
     simp only[List.foldl_cons,List.foldl_nil,hst]at hnd'
     simp only[hk2,iF,t1,t7,oS,hst]
     exact ih (k+1) sn' nx' (ks++[e.t]) (rows++[rowOf layer[i] e]) (by omega) t2 t8 hnd' (by simp;omega)
theorem k1D(hN:N<=60)(hok: ∀e∈es,eOK (N:Int) e=true)(hn:xs.length=N)(hx: ∀x∈xs,x.2.length<=1000000)(he:es.length<=2000){s:Int}{paths:Sx}{layer:List PE}(hp:SxP paths layer)(hll:layer.length<=10000)(hpl: ∀p∈layer,p.1.length<=900000)(hend: ∀p∈layer,endP p):
  ∀(d i:Nat) (seen next:Sx) (ks:List Int) (rows:List PE),i+d=layer.length->SxI seen ks->SxP next rows->(ks.Nodup/\ ∀q∈ks,0<=q/\q<(N:Int))->rows.length<=ks.length->
  match hitC es (okC es xs) s (layer.drop i)with
  |some r=> ∃o,y58_2 M (uLs b3 xs) s g0 g1 (uEs b2 es) (i:Int) paths seen next=some (.sl o)/\SxI o r
  |none=> ∃seen' next',SxI seen' (nextL es (okC es xs) (layer.drop i) (ks,rows)).1/\SxP next' (nextL es (okC es xs) (layer.drop i) (ks,rows)).2/\
   y58_2 M (uLs b3 xs) s g0 g1 (uEs b2 es) (i:Int) paths seen next=y58_1 M (uLs b3 xs) s g0 g1 (uEs b2 es) next' seen':=by
 intro d
 induction d with
 |zero=>
  intro i seen next ks rows hi h1 h2 _ _
  rw[dL (by omega),Y0t]
  simp only[hp.len,show¬((i:Int)<((layer.length:Nat):Int)) by omega,dF,bF,iF,hitC]
  exact⟨seen,next,h1,h2,rfl⟩
 |succ d ih=>
  intro i seen next ks rows hi hsn hnx hnd hrk
  have hlt:i<layer.length:=by omega
  obtain⟨p1,p2⟩:=hp.get hlt
  have hpl1:=hpl _ (lM hlt)
  obtain⟨w,w1,w2⟩:=z1o (M:=M) (b2:=b2) (g0:=g0) (g1:=g1) he (x:=layer[i].2)
  have h3:=k1C (M:=M) (b2:=b2) (b3:=b3) (g0:=g0) (g1:=g1) (s:=s) hN hok hn hx he hp hll hlt hpl1 w2 _ 0 seen next ks rows (Nat.zero_add _) hsn hnx hnd hrk
  rw[List.drop_zero,show((0:Nat):Int)=0 from rfl]at h3
  have heq:y58_2 M (uLs b3 xs) s g0 g1 (uEs b2 es) (i:Int) paths seen next=y58_3 M (uLs b3 xs) s g0 g1 (uEs b2 es) (i:Int) layer[i].2 0 paths seen next w:=by
   rw[Y0t]
   simp only[hp.len,show((i:Int)<((layer.length:Nat):Int)) by omega,dY,iT,p1,p2,oS,cell_uIs,len_uIs,K0Q (hend _ (lM hlt)) (show layer[i].1.length<=1000000 by omega),cell_c,asI_c,w1,asSl_sl]
  rw[q0c hlt]
  unfold hitC nextL
  rw[List.foldl_cons]
  cases hf:(mv es layer[i].2).find? (fun x=>okC es xs x&&decide (x.t=s))with
  |some x=>
   rw[hf]at h3
   simp only
   rw[heq]
   exact h3
  |none=>
   rw[hf]at h3
   obtain⟨sn,nx,k1,k2,k3⟩:=h3
   have hk:=z0x (ok:=okC es xs) (p:=layer[i]) (mv es layer[i].2) (ks,rows)
   have hnd2:=j0r hok (ok:=okC es xs) (p:=layer[i]) (mv es layer[i].2) (fun x hx=>(z0Q hx).1) (ks,rows) hnd
   have ih':=ih (i+1) sn nx _ _ (by omega) k1 k2 hnd2 (by simp only at hk;omega)
   simp only
   rw[heq,k3]
   exact ih'
theorem k1E(hN:N<=60)(hok: ∀e∈es,eOK (N:Int) e=true)(hn:xs.length=N)(hx: ∀x∈xs,x.2.length<=1000000)(he:es.length<=2000){s:Nat}{r:List Int}:
  ∀(f:Nat) (m:Nat) (paths seen:Sx) (ks:List Int) (layer:List PE),SxP paths layer->SxI seen ks->(∀p∈layer,p.1.length<=m)->m+2*f<=900000->(∀p∈layer,endP p)->okL N m layer->layer.length<=10000->(ks.Nodup/\ ∀q∈ks,0<=q/\q<(N:Int))->(s:Int)∉ks->cirF es xs s f ks layer=some r->
  ∃o,y58_1 M (uLs b3 xs) (s:Int) g0 g1 (uEs b2 es) paths seen=some (.sl o)/\SxI o r:=by
 intro f
 induction f with
 |zero=>intro _ _ _ _ _ _ _ _ _ _ _ _ _ _ h;cases h
 |succ f ih=>
  intro m paths seen ks layer hp hsn hlay hmf hend hokl hll hnd hsk hr
  simp only[cirF]at hr
  rw[Q1F]
  by_cases h0:layer=[]
  ·subst h0
   rw[if_pos rfl]at hr
   cases hr
   simp only[hp.len,List.length_nil,show¬((0:Int)<((0:Nat):Int)) by omega,dF,bF,iF]
   exact⟨_,rfl, .nil⟩
  ·rw[if_neg h0]at hr
   have hpos:0<layer.length:=List.length_pos_iff.2 h0
   have hpl: ∀p∈layer,p.1.length<=900000:=fun p hp=>by have:=hlay p hp;omega
   have h2:=k1D (M:=M) (b2:=b2) (b3:=b3) (g0:=g0) (g1:=g1) (s:=(s:Int)) hN hok hn hx he hp hll hpl hend _ 0 seen ⟨false,0,[]⟩ ks [] (Nat.zero_add _) hsn ⟨rfl,fun _=>rfl,fun h=>by cases h⟩ hnd (Nat.zero_le _)
   have h3:=J0t (es:=es) (ok:=okC es xs) (s:=(s:Int)) layer (ks,[]) hsk rfl
   rw[List.drop_zero,show((0:Nat):Int)=0 from rfl]at h2
   simp only[hp.len,show(0:Int)<((layer.length:Nat):Int) by omega,dY,iT]
   cases hh:hitC es (okC es xs) (s:Int) layer with
   |some b=>
    rw[hh]at h2 h3
    simp only at h3
    rw[h3]at hr
    cases hr
    exact h2
   |none=>
    rw[hh]at h2 h3
    simp only at h3
    rw[h3.2]at hr
    obtain⟨sn,nx,j1,j2,j3⟩:=h2
    rw[j3]
    have hokl':=w0o hok (ok:=okC es xs) layer hokl (ks,[]) (fun p hp=>by cases hp)
    exact ih (m+2) nx sn _ _ j2 j1 (fun p hp=>(hokl' p hp).2) (by omega) (J0D layer _ (fun q hq=>by cases hq)) hokl' (by have:=w0n hN hok (ok:=okC es xs) (layer:=layer) hnd;omega) (q0V hok layer _ hnd) h3.1 hr
theorem Z1U(hN:N<=60)(hok: ∀e∈es,eOK (N:Int) e=true)(hn:xs.length=N)(hx: ∀x∈xs,x.2.length<=1000000)(he:es.length<=2000){s:Nat}(hsN:s<N){r:List Int}(hr:cirR es xs s=some r):
  ∃o,y58 M g0 g1 (uEs b2 es) (uLs b3 xs) (s:Int)=some (.sl o)/\SxI o r:=by
 unfold cirR at hr
 rw[W1u]
 simp only[q1Q he hx (show s<xs.length by omega),oS,toU_val,asB_c]
 by_cases h0:atC xs s=enabled es (s:Int)
 ·rw[if_pos h0]at hr
  cases hr
  simp only[h0,dY,iT]
  exact⟨_,rfl, .nil⟩
 ·rw[if_neg h0]at hr
  simp only[h0,dF,bF,iF]
  exact k1E hN hok hn hx he 100 1 _ _ _ _ ⟨rfl,fun h=>(by cases h),fun _=>rfl⟩ .nil (fun p hp=>by simp only[mC,List.not_mem_nil,or_false]at hp;subst hp;simp) (by omega)
   (fun p hp=>by simp only[mC,List.not_mem_nil,or_false]at hp;subst hp;exact⟨[],rfl⟩) (fun p hp=>by simp only[mC,List.not_mem_nil,or_false]at hp;subst hp;exact⟨⟨s,rfl,hsN⟩,by simp⟩) (by simp) ⟨by simp,fun k hk=>by cases hk⟩ (by simp) hr
end
end Go.Proofs.Ythjjbkiejkhjfaa.R
