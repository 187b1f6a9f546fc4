/- - -/
import Derived.Test.YthjjbkiejkhjfaaPa
set_option linter.all false
namespace Go.Proofs.Ythjjbkiejkhjfaa.R
open Go Go.Proofs.Ythjjbkiejkhjfaa.Vm
section
variable{N:Nat}{lim km:Nat}{H0 H1:Heap}{F0 F1:Nat->Prop}{es:List E3}{ok:E3->Bool}{g:FuncId}{ua uc:List U}{u1:U}{b2 b3:Bool}{D:Nat->Nat->Bool}{v:Nat->Bool}{xs:List (Bool×List Int)}
theorem J1a(he:es.length<=2000)(x:Int):(mv es x).length<=24000:=by
 have:=z1w (es:=es) x 12 0
 unfold mv
 omega
theorem Z0p(ok:E3->Bool)(p:PE): ∀(ms:List E3) (st:List Int×List PE),(ms.foldl (step3 ok p) st).2.length<=st.2.length+ms.length
 | [],st=>nR _
 |x::ms,st=>by
  have:=Z0p ok p ms (step3 ok p st x)
  have h2:(step3 ok p st x).2.length<=st.2.length+1:=by
   unfold step3
   split<;>simp
  simp only[List.foldl_cons,List.length_cons]
  omega
def okP(N:Nat)(p:PE):Prop:=(∃s:Nat,p.2=(s:Int)/\s<N)/\p.1.length<=900000
theorem w1g(hl:lim<=H0.next)(hlk:lim<=km)(hk0:km<H0.next)(hkF: ¬F0 km)(hF0: ∀i,F0 i->i<H0.next)(he:es.length<=2000)(hok: ∀e∈es,eOK (N:Int) e=true){c pc lc:C}{layer:List PE}{bl:Bool}
  (hc:UC H0 F0 (chX N u1 b2 es D v b3 xs) [c]) (hp: ∀x∈es,ycall MM g (ua++[uE x]++uc)=some (.val (.c (.bool (ok x))))) (hpc:UC H0 F0 (.fn g ua uc) [pc]) (hm:UC H0 F0 (.sl bl (layer.map uP)) [lc]) (hlay: ∀p∈layer,okP N p) (hll:layer.length<=10000):
  ∀(d k:Nat) (H:Heap) (F:Nat->Prop) (ks:List Int) (rows:List PE) (oc:C),k+d=layer.length->FrX (some km) H0 F0 H F->H.get km=some (.map (ks.map ent))->OutR H0.next H F 2 (rows.map uP) oc->rows.length+24000*d<=1000000000->
  ∃H' F' oc',f87_1 (MH lim) c (.map km) pc oc lc (layer.length:Int) (k:Int) H=some (.c oc',H')/\
   FrX (some km) H0 F0 H' F'/\H'.get km=some (.map ((nextL es ok (layer.drop k) (ks,rows)).1.map ent))/\OutR H0.next H' F' 2 ((nextL es ok (layer.drop k) (ks,rows)).2.map uP) oc':=by
 intro d
 induction d with
 |zero=>
  intro k H F ks rows oc hk A hg ho _
  rw[W0F,dL (by omega)]
  simp only[show¬((k:Int)<(layer.length:Int)) by omega,dF,bF,iF]
  exact⟨H,F,oc,rfl,A,hg,ho⟩
 |succ d ih=>
  intro k H F ks rows oc hk A hg ho hr
  have hlt:k<layer.length:=by omega
  have hlim:lim<=H.next:=nT hl A.next
  have hF:=A.lt
  have B:FLe H0 F0 H F:=A.le (fun i e=>by cases e;exact hkF) hF0
  obtain⟨i,o,z,cs,e1,_,e3,e4,e5⟩:=(hm.mono B).elem (k:=k) (u:=uP layer[k]) (by simp[hlt])
  rw[show U.size (uP layer[k])=2 from rfl]at e1 e4 e5
  obtain⟨c2,e6,e7⟩:=k1Q e5
  have l0:=ldX e3 (j0P e6)
  have l1:=ldX e3 (j0Q e6)
  obtain⟨⟨s,hs,hsN⟩,hpl⟩:=hlay _ (lM hlt)
  obtain⟨w,w1,w2⟩:=z1y (M:=MM) (u1:=u1) (b2:=b2) (b3:=b3) (D:=D) (v:=v) (xs:=xs) he hok hsN
  obtain⟨v2,H2,F2,d1,d2,d3⟩:=z0V (lim:=lim) (f:=102) (us:=[chX N u1 b2 es D v b3 xs,uI (s:Int)]) (vs:=[.c c, .c (.int .i64 (s:Int))]) w1 rfl hlim hF
   ⟨_,_,rfl,⟨rfl,hc.mono B⟩,_,_,rfl,z0o _,rfl⟩
  rw[w2.fz]at d3
  obtain⟨c6,rfl,d4⟩:=d3.one rfl
  have d1':f102 (MH lim) c (s:Int) H=some (.c c6,H2):=d1
  have A2:=A.trans d2.weak
  have B2:FLe H0 F0 H2 F2:=B.trans (d2.le0 hF)
  have hg2:H2.get km=some (.map (ks.map ent)):=by rw[d2.keep km (nL hk0 A.next) (by simp)];exact hg
  have hml:=J1a he (s:Int)
  obtain⟨H3,F3,oc3,g1,g2,g3,g4⟩:=k1S (H1:=H2) (F1:=F2) (c:=c) (x14:=lc) (x15:=(layer.length:Int)) (x16:=(k:Int)) (p0:=c2) (p:=layer[k]) (ms:=mv es (s:Int)) (bm:=w.b) (mc:=c6) hl hlk hk0 hkF
   (fun x hx=>hp x (z0Q hx).1) (hpc.mono B2) (e7.mono (d2.le0 hF)) d4 (by omega) (by omega) _ 0 H2 F2 ks rows oc (Nat.zero_add _) A2 (FLe.refl _ _) hg2 (ho.fr d2 (fun i e=>by cases e) hF) (by omega)
  rw[List.drop_zero]at g3 g4
  have hrl:=Z0p ok layer[k] (mv es (s:Int)) (ks,rows)
  obtain⟨H',F',oc',j1,j2,j3,j4⟩:=ih (k+1) H3 F3 _ _ oc3 (by omega) g2 g3 g4 (by simp only at hrl;omega)
  rw[W0F,q0c hlt]
  have hlen:C.len c6=some (mv es (s:Int)).length:=by have:=UC.lenC (us:=(mv es (s:Int)).map uE) d4;simpa using this
  rw[show((0:Nat):Int)=0 from rfl,hs,q0a (show k<=1000000000 by omega),j1]at g1
  simp only[show((k:Int)<(layer.length:Int)) by omega,dY,iT,e1,oS,l0,l1,C.asI,hs,d1',V.asC,hlen,g1]
  refine⟨H',F',oc',rfl,j2, ?_, ?_⟩
  ·unfold nextL at j3⊢;rw[List.foldl_cons,hs];exact j3
  ·unfold nextL at j4⊢;rw[List.foldl_cons,hs];exact j4
theorem j1F(hl:lim<=H0.next)(hlk:lim<=km)(hk0:km<H0.next)(hkF: ¬F0 km)(hF0: ∀i,F0 i->i<H0.next)(he:es.length<=2000)(hok: ∀e∈es,eOK (N:Int) e=true){c pc lc:C}{layer:List PE}{bl:Bool}
  (hc:UC H0 F0 (chX N u1 b2 es D v b3 xs) [c]) (hp: ∀x∈es,ycall MM g (ua++[uE x]++uc)=some (.val (.c (.bool (ok x))))) (hpc:UC H0 F0 (.fn g ua uc) [pc]) (hm:UC H0 F0 (.sl bl (layer.map uP)) [lc]) (hlay: ∀p∈layer,okP N p) (hll:layer.length<=10000)
  {ks:List Int} (hg:H0.get km=some (.map (ks.map ent))):
  ∃H' F' oc b,f87 (MH lim) c lc (.map km) pc H0=some (.c oc,H')/\FrX (some km) H0 F0 H' F'/\H'.get km=some (.map ((nextL es ok layer (ks,[])).1.map ent))/\UC H' F' (.sl b ((nextL es ok layer (ks,[])).2.map uP)) [oc]:=by
 obtain⟨H',F',oc,j1,j2,j3,j4⟩:=w1g (u1:=u1) (b2:=b2) (b3:=b3) (D:=D) (v:=v) (xs:=xs) hl hlk hk0 hkF hF0 he hok hc hp hpc hm hlay hll layer.length 0 H0 F0 ks [] .nilSlice (Nat.zero_add _) (.refl hF0) hg .nil (by simp;omega)
 rw[List.drop_zero]at j3 j4
 obtain⟨F2,k1,k2,b,_,k3⟩:=j4.fin j2.lt
 have hlen:C.len lc=some layer.length:=by have:=UC.lenC (us:=layer.map uP) hm;simpa using this
 rw[show((0:Nat):Int)=0 from rfl]at j1
 refine⟨H',F2,oc,b, ?_,j2.more k1 k2 (nR _),j3,k3⟩
 rw[K1s]
 simp only[hlen,oS,j1]
def bestStep(cond:E3->Bool)(p:PE)(best:Option (List Int))(x:E3):Option (List Int):=
 if cond x=true then(match best with
  |none=>some (p.1++[x.a])
  |some b=>if cmpL (p.1++[x.a]) b<0 then some (p.1++[x.a])else some b)else best
def bestL(es:List E3)(cond:E3->Bool)(layer:List PE)(best:Option (List Int)):Option (List Int):=layer.foldl (fun b p=>(mv es p.2).foldl (bestStep cond p) b) best
def BestR(H:Heap)(F:Nat->Prop)(best:Option (List Int))(c:C):Prop:=
 match best with
 |none=>c= .nilSlice
 |some l=>UC H F (uIs true l) [c]/\l≠[]/\l.length<=1000002
theorem BestR.mono{H H':Heap}{F F':Nat->Prop}{best:Option (List Int)}{c:C}(h:BestR H F best c)(m:FLe H F H' F'):BestR H' F' best c:=by
 cases best with
 |none=>exact h
 |some l=>exact⟨h.1.mono m,h.2⟩
theorem W0M{H:Heap}{F:Nat->Prop}{l:List Int}{c:C}(h:UC H F (uIs true l) [c]):isNil .slice c=some false:=by
 rcases h with⟨h1,_⟩ |⟨_,i,o,cs,sz,e,_⟩
 ·cases h1
 ·simp only[List.cons.injEq,and_true]at e
  rw[e];rfl
theorem BestR.isNil{H:Heap}{F:Nat->Prop}{best:Option (List Int)}{c:C}(h:BestR H F best c):isNil .slice c=some best.isNone:=by
 cases best with
 |none=>rw[show c= .nilSlice from h];rfl
 |some l=>exact W0M h.1
theorem Z0q{H:Heap}{F:Nat->Prop}{i:Nat}{u:U}{c:C}(h:H.get i=some (.cells 1 [c]))(hF:F i)(hs:u.isSt=false)(hu:UC H F u [c]):UC H F (.ref (.st [u]) 0) [.ptr i 0]:=
 ⟨i,0,1,[c],1,rfl,hF,h,by simp,c,[],rfl,hs,hu,rfl⟩
def condB(D:Nat->Nat->Bool)(xs:List (Bool×List Int))(s:Nat)(x:E3):Bool:= !decide (x.a∈atC xs s)&&(atC xs s).any fun c=>D x.a.toNat c.toNat
theorem w1h{n0:Nat}{H:Heap}{F:Nat->Prop}{s:Sx}{v:V}{l:List Int}(h:SlR n0 H F s v)(hs:SxI s l): ∃c,v= .c c/\OutR n0 H F 1 (l.map uI) c:=by
 rcases h with⟨_,h1,rfl⟩ |⟨hb,i,p,cs,rfl,h1,h2,h3,h4,h5,h6⟩
 ·rw[hs.es]at h1
  exact⟨_,rfl,by rw[h1];exact .nil⟩
 ·rw[hs.z hb,hs.es]at*
  exact⟨_,rfl, .inr ⟨i,p,cs,rfl,h1,h2,h3,h4,h5,h6⟩⟩
theorem J1H{lim:Nat}{H:Heap}{F:Nat->Prop}{l:List Int}{c:C}(hn:l.length<=1000000)(hl:lim<=H.next)(hF: ∀i,F i->i<H.next)(hc:UC H F (uIs true l) [c]):
  ∃c' H' F',f59 (MH lim) c H=some (.c c',H')/\FrX none H F H' F'/\OutR H.next H' F' 1 (l.map uI) c':=by
 obtain⟨w,w1,w2⟩:=z1z (M:=MM) l hn
 obtain⟨v,H2,F2,c1,c2,c3⟩:=Rz.callS (lim:=lim) (md:=md) (j0L (vext:=awExt 10) (yext:=yExt2) (prog:=progOf 10 prog true) (lim:=lim) k0x (J0G lim)) (f:=59) (us:=[uIs true l]) (vs:=[.c c]) w1 (.inl (by kernel_rfl)) hl hF ⟨_,_,rfl,⟨rfl,hc⟩,rfl⟩
 obtain⟨c',rfl,c4⟩:=w1h c3 w2
 exact⟨c',H2,F2,c1,c2,c4⟩
theorem w1i(hl:lim<=H0.next)(hF0: ∀i,F0 i->i<H0.next)(hn:xs.length=N)(hx: ∀x∈xs,x.2.length<=1000000){s:Nat}(hs:s<N)(hch: ∀q∈atC xs s,0<=q/\q<12)
  {c:C} {ic is:Nat} {known layer x29 p0 mc:C} {x30 x31:Int} {p:PE} {ms:List E3} {bm:Bool} (hms: ∀x∈ms,eOK (N:Int) x=true)
  (hic:H0.get ic=some (.cells 1 [c])) (hicF:F0 ic) (his:H0.get is=some (.cells 1 [.int .i64 (s:Int)])) (hisF:F0 is) (hc:UC H0 F0 (chX N u1 b2 es D v b3 xs) [c])
  (hp0:UC H0 F0 (uIs true p.1) [p0]) (hm:UC H0 F0 (.sl bm (ms.map uE)) [mc]) (hpl:p.1.length<=900000) (hml:ms.length<=1000000):
  ∀(d k:Nat) (H:Heap) (F:Nat->Prop) (best:Option (List Int)) (bc:C),k+d=ms.length->FrX none H0 F0 H F->BestR H F best bc->
  ∃H' F' bc',f81_3 (MH lim) (.ptr ic 0) (.ptr is 0) (.func 100 [] [.ptr ic 0, .ptr is 0]) known layer bc p0 p.2 x29 x30 x31 mc (ms.length:Int) (k:Int) H=f81_2 (MH lim) (.ptr ic 0) (.ptr is 0) (.func 100 [] [.ptr ic 0, .ptr is 0]) known layer bc' x29 x30 (IntKind.wrap .i64 (x31+1)) H'/\
   FrX none H0 F0 H' F'/\BestR H' F' ((ms.drop k).foldl (bestStep (condB D xs s) p) best) bc':=by
 intro d
 induction d with
 |zero=>
  intro k H F best bc hk A hb
  rw[W0E,dL (by omega)]
  simp only[show¬((k:Int)<(ms.length:Int)) by omega,dF,bF,iF]
  exact⟨H,F,bc,rfl,A,hb⟩
 |succ d ih=>
  intro k H F best bc hk A hb
  have hlt:k<ms.length:=by omega
  have hlim:lim<=H.next:=nT hl A.next
  have hF:=A.lt
  have B:FLe H0 F0 H F:=A.le0 hF0
  obtain⟨i,o,z,cs,e1,_,e3,e4,e5⟩:=(hm.mono B).elem (k:=k) (u:=uE ms[k]) (by simp[hlt])
  rw[show U.size (uE ms[k])=3 from rfl]at e1 e4 e5
  have e6:=K1l e5
  have l0:=ldX e3 (j0P e6)
  have l1:=ldX e3 (j0Q e6)
  have l2:=ldX e3 (Q0J e6)
  obtain⟨⟨_,_,ha0,ha1⟩,_,_⟩:=q0w (hms _ (lM hlt))
  obtain⟨a,ha⟩:=iZ ha0
  obtain⟨c9,H2,F2,c1,c2,c3⟩:=J1H (by omega) hlim hF (hp0.mono B)
  have A2:=A.trans c2
  have P3:=FrX.alloc (H:=H2) (F:=F2) (.cells 1 [.int .i64 ms[k].a]) A2.lt
  have A3:=A2.trans P3
  have c4:=c3.fr P3 (fun i e=>by cases e) A2.lt
  have hcell:Heap.cellsOf (H2.alloc (.cells 1 [.int .i64 ms[k].a])) 1 (.slice H2.next 0 1)=some [.int .i64 ms[k].a]:=by simp[Heap.cellsOf,Heap.ldN]
  obtain⟨c12,H4,g1,g2,g3,g4,g5⟩:=c4.app (lim:=lim) hlim A3.lt (nT c2.next P3.next) (u:=uI ms[k].a) (xs:=[.int .i64 ms[k].a]) ⟨rfl,rfl⟩ rfl (by simp;omega)
  obtain⟨F5,k1,k2,b,kb,k3⟩:=g2.fin (fun i hi=>nL (A3.lt i hi) g3)
  have hb1:b=true:=by
   cases b with
   |true=>rfl
   |false=>have:=kb rfl;simp at this
  subst hb1
  have hown:UC H4 F5 (uIs true (p.1++[ms[k].a])) [c12]:=by
   unfold uIs
   simpa using k3
  have m4:FLe H F H4 F5:=((c2.le0 hF).trans ((P3.le0 A2.lt).trans g4)).trans ⟨k1,fun _ _=>rfl⟩
  have A4:FrX none H0 F0 H4 F5:=⟨nT A3.next g3,fun i hi hx=>(g5 i (nL hi A.next)).trans (A3.keep i hi hx),fun i hi=>k1 i (A3.sub i hi),fun i hi=>(k2 i hi).elim (A3.new i) fun h=> .inr (nT A.next h.1),fun i hi=>(k2 i hi).elim (fun h=>nL (A3.lt i h) g3) fun h=>h.2⟩
  have B4:FLe H0 F0 H4 F5:=A4.le0 hF0
  have q1:H4.ld ic 0=some c:=ldX (by rw[B4.same ic hicF];exact hic) rfl
  have q2:H4.ld is 0=some (.int .i64 (s:Int)):=ldX (by rw[B4.same is hisF];exact his) rfl
  obtain⟨v5,H5,F6,d1,d2,d3⟩:=z0V (lim:=lim) (f:=86) (us:=[chX N u1 b2 es D v b3 xs,uI (s:Int),uI ms[k].a]) (vs:=[.c c, .c (.int .i64 (s:Int)), .c (.int .i64 ms[k].a)])
   (z1u (M:=MM) (u1:=u1) (b2:=b2) (b3:=b3) (es:=es) (D:=D) (v:=v) hn hx hs (a:=ms[k].a)) rfl (nT hl A4.next) A4.lt ⟨_,_,rfl,⟨rfl,hc.mono B4⟩,_,_,rfl,z0o _,_,_,rfl,z0o _,rfl⟩
  have hv5:=d3.bool
  subst hv5
  have d1':f86 (MH lim) c (s:Int) ms[k].a H4=some (.c (.bool (decide (ms[k].a∈atC xs s))),H5):=d1
  have A5:=A4.trans d2
  have m5:=m4.trans (d2.le0 A4.lt)
  have B5:FLe H0 F0 H5 F6:=A5.le0 hF0
  rw[W0E,q0c hlt,List.foldl_cons]
  simp only[show((k:Int)<(ms.length:Int)) by omega,dY,iT,e1,oS,l0,l1,l2,C.asI,c1,V.asC,hcell,g1,V.asP,q1,q2,d1',C.asB]
  by_cases hch1:ms[k].a∈atC xs s
  ·have hst:bestStep (condB D xs s) p best ms[k]=best:=by simp[bestStep,condB,hch1]
   simp only[hch1,dY,Bool.not_true,bF,iF,oS,k0n,q0a (show k<=1000000000 by omega),hst]
   exact ih (k+1) H5 F6 best bc (by omega) A5 (hb.mono m5)
  have hy:ycall MM 100 [uI (a:Int), .ref (.st [chX N u1 b2 es D v b3 xs]) 0, .ref (.st [uI (s:Int)]) 0]=some (.val (.c (.bool ((atC xs s).any fun q=>D a q.toNat)))):=Z1e (M:=MM) (u1:=u1) (b2:=b2) (b3:=b3) (es:=es) (D:=D) (v:=v) hn hx hs (a:=a) (by omega) hch
  obtain⟨v6,H6,F7,x1,x2,x3⟩:=z0V (lim:=lim) (vs:=[.c (.int .i64 (a:Int)), .c (.ptr ic 0), .c (.ptr is 0)]) hy rfl (nT hl A5.next) A5.lt
   ⟨_,_,rfl,z0o _,_,_,rfl,⟨rfl,Z0q (by rw[B5.same ic hicF];exact hic) (B5.sub ic hicF) rfl (hc.mono B5)⟩,_,_,rfl,⟨rfl,Z0q (by rw[B5.same is hisF];exact his) (B5.sub is hisF) rfl ⟨rfl,rfl⟩⟩,rfl⟩
  have hv6:=x3.bool
  subst hv6
  have A6:=A5.trans x2
  have m6:=m5.trans (x2.le0 A5.lt)
  have hat:ms[k].a.toNat=a:=by omega
  have hd:condB D xs s ms[k]=(atC xs s).any fun q=>D a q.toNat:=by simp[condB,hch1,hat]
  rw[<-ha]at x1
  simp only[hch1,dF,Bool.not_false,iT,C.asF,List.map_nil,List.map_cons,List.nil_append,List.cons_append,x1,oS,V.asC,C.asB]
  rcases Bool.eq_false_or_eq_true ((atC xs s).any fun q=>D a q.toNat)with hd1 |hd1
  rotate_left
  ·have hst:bestStep (condB D xs s) p best ms[k]=best:=by simp[bestStep,hd,hd1]
   simp only[hd1,bF,iF,oS,k0n,q0a (show k<=1000000000 by omega),hst]
   exact ih (k+1) H6 F7 best bc (by omega) A6 (hb.mono m6)
  have m65:FLe H4 F5 H6 F7:=(d2.le0 A4.lt).trans (x2.le0 A5.lt)
  have hnew: ∀(H':Heap) (F':Nat->Prop),FLe H6 F7 H' F'->BestR H' F' (some (p.1++[ms[k].a])) c12:=fun H' F' m=>⟨hown.mono (m65.trans m),by simp,by simp;omega⟩
  have hbn:=(hb.mono m6).isNil
  cases best with
  |none=>
   have hst:bestStep (condB D xs s) p none ms[k]=some (p.1++[ms[k].a]):=by simp[bestStep,hd,hd1]
   simp only[hd1,iT,hbn,Option.isNone_none,oS,Bool.true_bne,Bool.not_false,Bool.true_eq_false,iF,k0n,q0a (show k<=1000000000 by omega),hst]
   exact ih (k+1) H6 F7 _ c12 (by omega) A6 (hnew _ _ (FLe.refl _ _))
  |some bl=>
   have hb6:=hb.mono m6
   obtain⟨v7,H7,F8,z1,z2,z3⟩:=z0V (lim:=lim) (f:=103) (us:=[uIs true (p.1++[ms[k].a]),uIs true bl]) (vs:=[.c c12, .c bc]) (Z1a (M:=MM) (by simp;omega)) rfl (nT hl A6.next) A6.lt
    ⟨_,_,rfl,⟨rfl,hown.mono m65⟩,_,_,rfl,⟨rfl,hb6.1⟩,rfl⟩
   have hv7:=z3.int
   subst hv7
   have z1':f103 (MH lim) c12 bc H6=some (.c (.int .i64 (cmpL (p.1++[ms[k].a]) bl)),H7):=z1
   have A7:=A6.trans z2
   have m7:=z2.le0 A6.lt
   by_cases hcm:cmpL (p.1++[ms[k].a]) bl<0
   ·have hst:bestStep (condB D xs s) p (some bl) ms[k]=some (p.1++[ms[k].a]):=by simp[bestStep,hd,hd1,hcm]
    simp only[hd1,iT,hbn,Option.isNone_some,oS,Bool.false_bne,z1',V.asC,C.asI,hcm,dY,k0n,q0a (show k<=1000000000 by omega),hst]
    exact ih (k+1) H7 F8 _ c12 (by omega) A7 (hnew _ _ m7)
   ·have hst:bestStep (condB D xs s) p (some bl) ms[k]=some bl:=by simp[bestStep,hd,hd1,hcm]
    simp only[hd1,iT,hbn,Option.isNone_some,oS,Bool.false_bne,z1',V.asC,C.asI,hcm,dF,bF,iF,k0n,q0a (show k<=1000000000 by omega),hst]
    exact ih (k+1) H7 F8 _ bc (by omega) A7 (hb6.mono m7)
end
end Go.Proofs.Ythjjbkiejkhjfaa.R
