/- - -/
import Derived.Test.YthjjbkiejkhjfaaPd
set_option linter.all false
namespace Go.Proofs.Ythjjbkiejkhjfaa.R
open Go Go.Proofs.Ythjjbkiejkhjfaa.Vm
section
variable{N:Nat}{lim km:Nat}{H0 H1:Heap}{F0 F1:Nat->Prop}{es:List E3}{u1:U}{b2 b3:Bool}{D:Nat->Nat->Bool}{v:Nat->Bool}{xs:List (Bool×List Int)}
theorem k1F{H:Heap}{F:Nat->Prop}{s:Int}{c known permits lc:C}{layer:List PE}{bl:Bool}(hm:UC H F (.sl bl (layer.map uP)) [lc])(hll:layer.length<=10000): ∀(d k:Nat),k+d=layer.length->
  match(layer.drop k).find? (fun p=>decide (p.2=s))with
  |some p=> ∃pc,f54_2 (MH lim) s c known permits lc lc (layer.length:Int) (k:Int) H=some (.c pc,H)/\UC H F (uIs true p.1) [pc]
  |none=>f54_2 (MH lim) s c known permits lc lc (layer.length:Int) (k:Int) H=f54_1 (MH lim) s c known permits lc H:=by
 intro d
 induction d with
 |zero=>
  intro k hk
  rw[dL (by omega)]
  show f54_2 _ _ _ _ _ _ _ _ _ _=_
  rw[W0B]
  simp only[show¬((k:Int)<(layer.length:Int)) by omega,dF,bF,iF]
 |succ d ih=>
  intro k hk
  have hlt:k<layer.length:=by omega
  obtain⟨i,o,z,cs,e1,_,e3,e4,e5⟩:=hm.elem (k:=k) (u:=uP layer[k]) (by simp[hlt])
  rw[show U.size (uP layer[k])=2 from rfl]at e1 e4 e5
  obtain⟨c2,e6,e7⟩:=k1Q e5
  have l0:=ldX e3 (j0P e6)
  have l1:=ldX e3 (j0Q e6)
  have ih':=ih (k+1) (by omega)
  rw[q0c hlt,List.find?_cons]
  have heq:f54_2 (MH lim) s c known permits lc lc (layer.length:Int) (k:Int) H=if layer[k].2=s then some (.c c2,H)else f54_2 (MH lim) s c known permits lc lc (layer.length:Int) ((k+1:Nat):Int) H:=by
   rw[W0B]
   simp only[show((k:Int)<(layer.length:Int)) by omega,dY,iT,e1,oS,l0,l1,C.asI,q0a (show k<=1000000000 by omega),dE]
  by_cases h:layer[k].2=s
  ·simp only[h,dY]
   rw[heq,if_pos h]
   exact⟨c2,rfl,e7⟩
  ·simp only[h,dF]
   rw[heq,if_neg h]
   exact ih'
def okC(es:List E3)(xs:List (Bool×List Int))(x:E3):Bool:=decide (x.a∈atC xs x.f.toNat)&& !decide (atC xs x.t.toNat=enabled es x.t)
def cirF(es:List E3)(xs:List (Bool×List Int))(s:Nat):Nat->List Int->List PE->Option (List Int)
 | 0,_,_=>none
 |f+1,ks,layer=>if layer=[]then some []else match(nextL es (okC es xs) layer (ks,[])).2.find? (fun p=>decide (p.2=(s:Int)))with
  |some p=>some p.1
  |none=>cirF es xs s f (nextL es (okC es xs) layer (ks,[])).1 (nextL es (okC es xs) layer (ks,[])).2
theorem q1S{ok:E3->Bool}{p:PE}: ∀(ms:List E3) (st:List Int×List PE),(∀q∈st.2,q.1≠[])-> ∀q∈(ms.foldl (step3 ok p) st).2,q.1≠[]
 | [],st,h=>h
 |x::ms,st,h=>by
  refine q1S ms _ ?_
  unfold step3
  split
  ·intro q hq
   rcases mA.1 hq with hq |hq
   ·exact h q hq
   ·simp only[mC,List.not_mem_nil,or_false]at hq
    subst hq;simp
  ·exact h
theorem K0n{ok:E3->Bool}: ∀(layer:List PE) (st:List Int×List PE),(∀q∈st.2,q.1≠[])-> ∀q∈(nextL es ok layer st).2,q.1≠[]
 | [],st,h=>h
 |p::layer,st,h=>by
  unfold nextL
  rw[List.foldl_cons]
  exact K0n layer _ (q1S _ st h)
theorem k1G(hl:lim<=H0.next)(hlk:lim<=km)(hk0:km<H0.next)(hkF: ¬F0 km)(hF0: ∀i,F0 i->i<H0.next)(hN:N<=60)(he:es.length<=2000)(hok: ∀e∈es,eOK (N:Int) e=true)(hn:xs.length=N)(hx: ∀x∈xs,x.2.length<=1000000){s:Nat}(hs:s<N)
  {c:C} {ic:Nat} (hic:H0.get ic=some (.cells 1 [c])) (hicF:F0 ic) (hc:UC H0 F0 (chX N u1 b2 es D v b3 xs) [c]) {r:List Int}:
  ∀(f:Nat) (ks:List Int) (layer:List PE) (m:Nat) (H:Heap) (F:Nat->Prop) (lc:C) (bl:Bool),FrX (some km) H0 F0 H F->H.get km=some (.map (ks.map ent))->UC H F (.sl bl (layer.map uP)) [lc]->okL N m layer->m+2*f<=900000->layer.length<=10000->
   (ks.Nodup/\ ∀k∈ks,0<=k/\k<(N:Int))->cirF es xs s f ks layer=some r->
  ∃H' F' rc,f54_1 (MH lim) (s:Int) (.ptr ic 0) (.map km) (.func 85 [] [.ptr ic 0]) lc H=some (.c rc,H')/\FrX (some km) H0 F0 H' F'/\UC H' F' (rowU r) [rc]:=by
 intro f
 induction f with
 |zero=>intro _ _ _ _ _ _ _ _ _ _ _ _ _ _ h;cases h
 |succ f ih=>
  intro ks layer m H F lc bl A hg hm hlay hmf hll hnd hr
  have hlim:lim<=H.next:=nT hl A.next
  have B:FLe H0 F0 H F:=A.le (fun i e=>by cases e;exact hkF) hF0
  have hkF1: ¬F km:=K1m A hk0 hkF
  have hic1:H.get ic=some (.cells 1 [c]):=by rw[B.same ic hicF];exact hic
  rw[k1T]
  simp only[cirF]at hr
  by_cases h0:layer=[]
  ·subst h0
   rw[if_pos rfl]at hr
   cases hr
   refine⟨H,F, .nilSlice, ?_,A, .inl ⟨rfl,rfl,rfl⟩⟩
   simp[w0C hm]
  ·rw[if_neg h0]at hr
   have hpos:0<layer.length:=List.length_pos_iff.2 h0
   have hkH:km<H.next:=nL hk0 A.next
   obtain⟨H3,F3,oc,b,j1,j2,j3,j4⟩:=j1F (lim:=lim) (km:=km) (g:=85) (ua:=[]) (uc:=[.ref (.st [chX N u1 b2 es D v b3 xs]) 0]) (u1:=u1) (b2:=b2) (b3:=b3) (D:=D) (v:=v) (xs:=xs) (ok:=okC es xs)
    hlim hlk hkH hkF1 A.lt he hok (c:=c) (pc:= .func 85 [] [.ptr ic 0]) (lc:=lc) (layer:=layer) (bl:=bl) (hc.mono B)
    (fun x hxe=>by
     obtain⟨⟨g1,g2,g3,g4⟩,g5,g6⟩:=q0w (hok x hxe)
     obtain⟨f',hf'⟩:=iZ g1
     obtain⟨t',ht'⟩:=iZ g5
     have:=K1L (M:=MM) (u1:=u1) (b2:=b2) (b3:=b3) (D:=D) (v:=v) hok hn hx (s:=f') (t:=t') (by omega) (by omega) (x2:=x.a)
     show y85 MM x.f x.t x.a _=_
     rw[hf',ht',this]
     simp only[okC,hf',ht',iN])
    ⟨[],[.ptr ic 0],rfl,rfl,_,_,rfl,rfl,Z0q hic1 (B.sub ic hicF) rfl (hc.mono B),rfl⟩ hm (K0l hlay (by omega)) hll hg
   have hnl:=w0n hN hok (ok:=okC es xs) (layer:=layer) hnd
   have h2:=k1F (lim:=lim) (s:=(s:Int)) (c:= .ptr ic 0) (known:= .map km) (permits:= .func 85 [] [.ptr ic 0]) j4 (by omega) _ 0 (Nat.zero_add _)
   rw[List.drop_zero,show((0:Nat):Int)=0 from rfl]at h2
   have q1:H.ld ic 0=some c:=ldX hic1 rfl
   simp only[w0C hm,oS,show(0:Int)<(layer.length:Int) by omega,dY,iT,V.asP,V.asC,q1,j1,w0C j4]
   cases hfi:(nextL es (okC es xs) layer (ks,[])).2.find? (fun p=>decide (p.2=(s:Int)))with
   |some p=>
    rw[hfi]at hr h2
    cases hr
    obtain⟨pc,k1,k2⟩:=h2
    have hne:=K0n (es:=es) (ok:=okC es xs) layer (ks,[]) (fun q hq=>by cases hq) p (List.mem_of_find?_eq_some hfi)
    refine⟨H3,F3,pc,k1,A.trans j2, ?_⟩
    have hb1:(!p.1.isEmpty)=true:=by
     cases hp:p.1 with
     |nil=>exact absurd hp hne
     |cons=>rfl
    unfold rowU
    rw[hb1]
    exact k2
   |none=>
    rw[hfi]at hr h2
    obtain⟨H',F',rc,k1,k2,k3⟩:=ih _ _ (m+2) H3 F3 oc b (A.trans j2) j3 j4 (w0o hok layer hlay _ (fun p hp=>by cases hp)) (by omega) (by omega) (q0V hok layer _ hnd) hr
    exact⟨H',F',rc,h2.trans k1,k2,k3⟩
def cirR(es:List E3)(xs:List (Bool×List Int))(s:Nat):Option (List Int):=
 if atC xs s=enabled es (s:Int)then some []else cirF es xs s 100 [] [([(s:Int)],(s:Int))]
theorem Z1V{H:Heap}{F:Nat->Prop}(hl:lim<=H.next)(hF: ∀i,F i->i<H.next)(hN:N<=60)(he:es.length<=2000)(hok: ∀e∈es,eOK (N:Int) e=true)(hn:xs.length=N)(hx: ∀x∈xs,x.2.length<=1000000){s:Nat}(hs:s<N)
  {c:C} (hc:UC H F (chX N u1 b2 es D v b3 xs) [c]) {r:List Int} (hr:cirR es xs s=some r):
  ∃H' F' rc,f54 (MH lim) c (s:Int) H=some (.c rc,H')/\FrX none H F H' F'/\UC H' F' (rowU r) [rc]:=by
 have A1:=FrX.allocF (H:=H) (F:=F) (.cells 1 [c]) hF
 have m1:=A1.le0 hF
 have hic:(H.alloc (.cells 1 [c])).get H.next=some (.cells 1 [c]):=alloc_new _ _
 obtain⟨v3,H3,F3,d1,d2,d3⟩:=z0V (lim:=lim) (f:=84) (us:=[chX N u1 b2 es D v b3 xs,uI (s:Int)]) (vs:=[.c c, .c (.int .i64 (s:Int))])
  (X0m (M:=MM) (u1:=u1) (b2:=b2) (b3:=b3) (D:=D) (v:=v) hok hn hx hs) rfl (nT hl A1.next) A1.lt ⟨_,_,rfl,⟨rfl,hc.mono m1⟩,_,_,rfl,z0o _,rfl⟩
 have hv3:=d3.bool
 subst hv3
 have d1':f84 (MH lim) c (s:Int) (H.alloc (.cells 1 [c]))=some (.c (.bool (decide (atC xs s=enabled es (s:Int)))),H3):=d1
 have A3:=A1.trans d2
 have m3:=d2.le0 A1.lt
 have q1:=ldX (o:=0) hic rfl
 rw[K1p]
 simp only[q1,oS,d1',V.asC,C.asB]
 unfold cirR at hr
 by_cases h0:atC xs s=enabled es (s:Int)
 ·rw[if_pos h0]at hr
  cases hr
  simp only[h0,dY,iT]
  exact⟨H3,F3, .nilSlice,rfl,A3, .inl ⟨rfl,rfl,rfl⟩⟩
 rw[if_neg h0]at hr
 have P4:=FrX.alloc (H:=H3) (F:=F3) (.map []) A3.lt
 have A4:=A3.trans P4
 have m4:=P4.le0 A3.lt
 have hkF: ¬F3 H3.next:=fun h=>absurd (A3.lt _ h) (Nat.lt_irrefl _)
 have hic4:(H3.alloc (.map [])).get H.next=some (.cells 1 [c]):=by rw[(m3.trans m4).same _ (.inr rfl)];exact hic
 have P6:=FrX.allocF (H:=H3.alloc (.map [])) (F:=F3) (.cells 1 [.int .i64 (s:Int)]) A4.lt
 have P7:=FrX.allocF (.cells 2 [.slice (H3.alloc (.map [])).next 0 1, .int .i64 (s:Int)]) P6.lt
 have A7:FrX (some H3.next) (H3.alloc (.map [])) F3 _ _:=(P6.trans P7).weak
 obtain⟨H',F',rc,k1,k2,k3⟩:=k1G (lim:=lim) (km:=H3.next) (H0:=H3.alloc (.map [])) (F0:=F3) (u1:=u1) (b2:=b2) (b3:=b3) (D:=D) (v:=v) (c:=c) (ic:=H.next)
  (nT hl A4.next) (nT hl A3.next) (Nat.lt_succ_self _) hkF A4.lt hN he hok hn hx hs hic4 (d2.sub _ (.inr rfl)) (hc.mono (m1.trans (m3.trans m4))) 100 [] [([(s:Int)],(s:Int))] 1 _ _ (.slice ((H3.alloc (.map [])).alloc (.cells 1 [.int .i64 (s:Int)])).next 0 1) true A7
  (by rw[q0g (by simp[Heap.alloc]<;>omega),q0g (by simp[Heap.alloc]<;>omega)];exact alloc_new _ _)
  (.inr ⟨rfl,_,0,_,2,rfl, .inr rfl,alloc_new _ _,by simp,by
   refine⟨[.slice (H3.alloc (.map [])).next 0 1, .int .i64 (s:Int)],[],by simp,rfl, ?_,rfl⟩
   refine k1R (p:=([(s:Int)],(s:Int))) (.inr ⟨rfl,_,0,[.int .i64 (s:Int)],1,rfl, .inl (.inr rfl), ?_,by simp, ?_⟩)
   ·rw[q0g (by simp[Heap.alloc])];exact alloc_new _ _
   ·exact⟨[.int .i64 (s:Int)],[],by simp,rfl,⟨rfl,rfl⟩,rfl⟩⟩)
  (fun p hp=>by simp only[mC,List.not_mem_nil,or_false]at hp;subst hp;exact⟨⟨s,rfl,hs⟩,by simp⟩) (by omega) (by simp) ⟨by simp,fun k hk=>by cases hk⟩ hr
 simp only[h0,dF,bF,iF]
 exact⟨H',F',rc,k1,FrX.hide A4 k2 A3.next,k3⟩
end
theorem Q1Q{a b:E3}(h:uE a=uE b):a=b:=by
 cases a;cases b
 simp only[uE,uI,U.st.injEq,List.cons.injEq,U.c.injEq,C.int.injEq,true_and,and_true]at h
 obtain⟨rfl,rfl,rfl⟩:=h
 rfl
theorem k0N{α β:Type}{f:α->β}(hf: ∀a b,f a=f b->a=b): ∀{l r:List α},l.map f=r.map f->l=r
 | [],[],_=>rfl
 | [],_::_,h=>by cases h
 |_::_,[],h=>by cases h
 |a::l,b::r,h=>by
  simp only[List.map_cons,List.cons.injEq]at h
  rw[hf a b h.1,k0N hf h.2]
theorem J1v{N N':Nat}{u u':U}{b b' c c':Bool}{es es':List E3}{D D':Nat->Nat->Bool}{v v':Nat->Bool}{xs xs':List (Bool×List Int)}(h:chX N u b es D v c xs=chX N' u' b' es' D' v' c' xs'):N=N'/\es=es'/\xs=xs':=by
 obtain⟨w,w0,w1,w2,_⟩:=j0c (openU N u b es) D v (uLs c xs)
 obtain⟨w',w0',w1',w2',_⟩:=j0c (openU N' u' b' es') D' v' (uLs c' xs')
 unfold chX at h
 rw[h,w0']at w0
 cases w0
 rw[w1']at w1
 rw[w2']at w2
 have h1:openU N' u' b' es'=openU N u b es:=Option.some.inj w1
 have h2:uLs c' xs'=uLs c xs:=Option.some.inj w2
 simp only[openU,U.ref.injEq,U.st.injEq,List.cons.injEq,uI,U.c.injEq,C.int.injEq,U.sl.injEq,true_and]at h1
 unfold uLs at h2
 simp only[U.sl.injEq]at h2
 refine⟨by omega,k0N (fun a b=>Q1Q) h1.1.2.2.1.2.symm,k0N (fun a b e=> ?_) h2.2.symm⟩
 simp only[uIs,U.sl.injEq]at e
 exact Prod.ext e.1 (k0N (fun x y e=>by simpa[uI]using e) e.2)
structure ChP (us:List U) (N:Nat) (es:List E3) (xs:List (Bool×List Int)) (s:Nat):Prop where
 is: ∃u1 b2 v b3,us=[chX N u1 b2 es (DD es N) v b3 xs,uI (s:Int)]
 hN:N<=60
 he:es.length<=2000
 ok: ∀e∈es,eOK (N:Int) e=true
 len:xs.length=N
 hx: ∀x∈xs,x.2.length<=1000000
 hs:s<N
theorem ChP.inj{us:List U}{N N':Nat}{es es':List E3}{xs xs':List (Bool×List Int)}{s s':Nat}(h:ChP us N es xs s)(k:ChP us N' es' xs' s'):N=N'/\es=es'/\xs=xs'/\s=s':=by
 obtain⟨_,_,_,_,rfl⟩:=h.is
 obtain⟨_,_,_,_,e⟩:=k.is
 simp only[List.cons.injEq,uI,U.c.injEq,C.int.injEq,true_and,and_true]at e
 obtain⟨h1,h2,h3⟩:=J1v e.1
 exact⟨h1,h2,h3,by omega⟩
def BefP(us:List U)(r:List Int):Prop:= ∃N es xs s,ChP us N es xs s/\(∀q∈atC xs s,0<=q/\q<12)/\befR es (DD es N) xs s=some r
def CirP(us:List U)(r:List Int):Prop:= ∃N es xs s,ChP us N es xs s/\cirR es xs s=some r
theorem BefP.one{us:List U}{r r':List Int}(h:BefP us r)(k:BefP us r'):r=r':=by
 obtain⟨N,es,xs,s,h1,_,h2⟩:=h
 obtain⟨N',es',xs',s',k1,_,k2⟩:=k
 obtain⟨rfl,rfl,rfl,rfl⟩:=h1.inj k1
 exact Option.some.inj (h2.symm.trans k2)
theorem CirP.one{us:List U}{r r':List Int}(h:CirP us r)(k:CirP us r'):r=r':=by
 obtain⟨N,es,xs,s,h1,h2⟩:=h
 obtain⟨N',es',xs',s',k1,k2⟩:=k
 obtain⟨rfl,rfl,rfl,rfl⟩:=h1.inj k1
 exact Option.some.inj (h2.symm.trans k2)
open Classical in
noncomputable def pickY(P:List U->List Int->Prop)(us:List U):Option Rz:=if h: ∃r,P us r then some (.val (rowU h.choose))else none
theorem W0g{P:List U->List Int->Prop}(one: ∀us r r',P us r->P us r'->r=r'){us:List U}{r:List Int}(h:P us r):pickY P us=some (.val (rowU r)):=by
 have hx: ∃r,P us r:=⟨r,h⟩
 unfold pickY
 rw[dif_pos hx,one us _ _ hx.choose_spec h]
theorem k1H{P:List U->List Int->Prop}{us:List U}{r:Rz}(h:pickY P us=some r): ∃l,P us l/\r= .val (rowU l):=by
 unfold pickY at h
 split at h
 ·rename_i hx
  cases h
  exact⟨_,hx.choose_spec,rfl⟩
 ·cases h
theorem Q1R{lim:Nat}{A:FuncId}{P:List U->List Int->Prop}(hmd:md A=[.va])(hrun: ∀us l,P us l-> ∀(H:Heap) (F:Nat->Prop) vs,lim<=H.next->(∀i,F i->i<H.next)->UVs H F us vs-> ∃H' F' rc,mcall (MH lim) A vs H=some (.c rc,H')/\FrX none H F H' F'/\UC H' F' (rowU l) [rc]):
  CallsOK lim (callOf (run (awExt 10) (progOf 10 prog true) lim)) md (fun f us=>if f=A then pickY P us else none):=by
 intro f us r h H F vs hl hF hv
 by_cases hf:f=A
 ·subst hf
  simp only[iT]at h
  obtain⟨l,h1,rfl⟩:=k1H h
  obtain⟨H',F',rc,c1,c2,c3⟩:=hrun us l h1 H F vs hl hF hv
  refine⟨.c rc,H',F',c1,c2.next,fun i hi=>c2.keep i hi (fun e=>by cases e),c2.sub,c2.new,c2.lt, ?_⟩
  rw[hmd]
  exact⟨rfl,c3⟩
 ·simp only[if_neg hf]at h
  cases h
theorem Z1W(lim:Nat):CallsOK lim (callOf (run (awExt 10) (progOf 10 prog true) lim)) md (fun f us=>if f=81 then pickY BefP us else none):=
 Q1R (by kernel_rfl) fun us l h H F vs hl hF hv=>by
  obtain⟨N,es,xs,s,h1,h2,h3⟩:=h
  obtain⟨u1,b2,v,b3,rfl⟩:=h1.is
  obtain⟨v1,_,rfl,g1,v2,_,rfl,g2,rfl⟩:=hv
  obtain⟨c,rfl,g3⟩:=g1.one rfl
  have:=g2.int
  subst this
  exact Z1P hl hF h1.hN h1.he h1.ok h1.len h1.hx h1.hs h2 g3 h3
theorem Z1X(lim:Nat):CallsOK lim (callOf (run (awExt 10) (progOf 10 prog true) lim)) md (fun f us=>if f=54 then pickY CirP us else none):=
 Q1R (by kernel_rfl) fun us l h H F vs hl hF hv=>by
  obtain⟨N,es,xs,s,h1,h3⟩:=h
  obtain⟨u1,b2,v,b3,rfl⟩:=h1.is
  obtain⟨v1,_,rfl,g1,v2,_,rfl,g2,rfl⟩:=hv
  obtain⟨c,rfl,g3⟩:=g1.one rfl
  have:=g2.int
  subst this
  exact Z1V hl hF h1.hN h1.he h1.ok h1.len h1.hx h1.hs g3 h3
noncomputable def yExt3:YCallT:=fun f us=>if f=81 then pickY BefP us else if f=54 then pickY CirP us else yExt2 f us
theorem J0c(lim:Nat):CallsOK lim (callOf (run (awExt 10) (progOf 10 prog true) lim)) md yExt3:=CallsOK.or (Z1W lim) (CallsOK.or (Z1X lim) (J0G lim))
end Go.Proofs.Ythjjbkiejkhjfaa.R
