/- - -/
import Derived.Test.YthjjbkiejkhjfaaPc
set_option linter.all false
namespace Go.Proofs.Ythjjbkiejkhjfaa.R
open Go Go.Proofs.Ythjjbkiejkhjfaa.Vm
section
variable{N:Nat}{lim km:Nat}{H0 H1:Heap}{F0 F1:Nat->Prop}{es:List E3}{u1:U}{b2 b3:Bool}{D:Nat->Nat->Bool}{v:Nat->Bool}{xs:List (Bool×List Int)}
theorem w0n(hN:N<=60)(hok: ∀e∈es,eOK (N:Int) e=true){ok:E3->Bool}{layer:List PE}{ks:List Int}(h:ks.Nodup/\ ∀k∈ks,0<=k/\k<(N:Int)):(nextL es ok layer (ks,[])).2.length<=60:=by
 have h1:=z0y (es:=es) (ok:=ok) layer (ks,[])
 have h2:=j0n (q0V hok (ok:=ok) layer (ks,[]) h)
 simp only[List.length_nil]at h1
 omega
theorem K0l{m:Nat}{layer:List PE}(h:okL N m layer)(hm:m<=900000): ∀p∈layer,okP N p:=fun p hp=>⟨(h p hp).1,by have:=(h p hp).2;omega⟩
theorem w0C{H:Heap}{F:Nat->Prop}{b:Bool}{layer:List PE}{c:C}(h:UC H F (.sl b (layer.map uP)) [c]):C.len c=some layer.length:=by
 have:=UC.lenC (us:=layer.map uP) h
 simpa using this
theorem k1v(hl:lim<=H0.next)(hlk:lim<=km)(hk0:km<H0.next)(hkF: ¬F0 km)(hF0: ∀i,F0 i->i<H0.next)(hN:N<=60)(he:es.length<=2000)(hok: ∀e∈es,eOK (N:Int) e=true)(hn:xs.length=N)(hx: ∀x∈xs,x.2.length<=1000000){s:Nat}(hs:s<N)(hch: ∀q∈atC xs s,0<=q/\q<12)
  {c:C} {ic is:Nat} (hic:H0.get ic=some (.cells 1 [c])) (hicF:F0 ic) (his:H0.get is=some (.cells 1 [.int .i64 (s:Int)])) (hisF:F0 is) (hc:UC H0 F0 (chX N u1 b2 es D v b3 xs) [c]) {r:List Int}:
  ∀(f:Nat) (ks:List Int) (layer:List PE) (m:Nat) (H:Heap) (F:Nat->Prop) (lc:C) (bl:Bool),FrX (some km) H0 F0 H F->H.get km=some (.map (ks.map ent))->UC H F (.sl bl (layer.map uP)) [lc]->okL N m layer->m+2*f<=900000->layer.length<=10000->
   (ks.Nodup/\ ∀k∈ks,0<=k/\k<(N:Int))->befF es D xs s f ks layer=some r->
  ∃H' F' rc,f81_1 (MH lim) (.ptr ic 0) (.ptr is 0) (.func 100 [] [.ptr ic 0, .ptr is 0]) (.map km) lc H=some (.c rc,H')/\FrX (some km) H0 F0 H' F'/\UC H' F' (rowU r) [rc]:=by
 intro f
 induction f with
 |zero=>intro _ _ _ _ _ _ _ _ _ _ _ _ _ _ h;cases h
 |succ f ih=>
  intro ks layer m H F lc bl A hg hm hlay hmf hll hnd hr
  have hlim:lim<=H.next:=nT hl A.next
  have B:FLe H0 F0 H F:=A.le (fun i e=>by cases e;exact hkF) hF0
  have hkF1: ¬F km:=K1m A hk0 hkF
  have hic1:H.get ic=some (.cells 1 [c]):=by rw[B.same ic hicF];exact hic
  have his1:H.get is=some (.cells 1 [.int .i64 (s:Int)]):=by rw[B.same is hisF];exact his
  rw[k1U]
  simp only[befF]at hr
  by_cases h0:layer=[]
  ·subst h0
   rw[if_pos rfl]at hr
   cases hr
   refine⟨H,F, .nilSlice, ?_,A, .inl ⟨rfl,rfl,rfl⟩⟩
   simp[w0C hm]
  ·rw[if_neg h0]at hr
   have hpos:0<layer.length:=List.length_pos_iff.2 h0
   obtain⟨H2,F2,bc,g1,g2,g3⟩:=k1x (lim:=lim) (known:= .map km) (u1:=u1) (b2:=b2) (b3:=b3) (D:=D) (v:=v) (lc:=lc) (bl:=bl) hlim A.lt he hok hn hx hs hch hic1 (B.sub ic hicF) his1 (B.sub is hisF) (hc.mono B) hm (K0l hlay (by omega)) hll layer.length 0 H F none .nilSlice (Nat.zero_add _) (.refl A.lt) rfl
   rw[List.drop_zero]at g2 g3
   rw[show((0:Nat):Int)=0 from rfl]at g3
   simp only[w0C hm,oS,show(0:Int)<(layer.length:Int) by omega,dY,iT,g3]
   have A2:=A.step g1
   have hkH:km<H.next:=nL hk0 A.next
   cases hb:bestL es (condB D xs s) layer none with
   |some b=>
    rw[hb]at hr g2
    cases hr
    refine⟨H2,F2,bc,by simp,A2, ?_⟩
    have hb1:(!r.isEmpty)=true:=by
     cases r with
     |nil=>exact absurd rfl g2.2.1
     |cons=>rfl
    unfold rowU
    rw[hb1]
    exact g2.1
   |none=>
    rw[hb]at hr g2
    have B2:FLe H F H2 F2:=g1.le0 A.lt
    have hg2:H2.get km=some (.map (ks.map ent)):=by rw[g1.keep km hkH (by simp)];exact hg
    obtain⟨H3,F3,oc,b,j1,j2,j3,j4⟩:=j1F (lim:=lim) (km:=km) (g:=104) (ua:=[]) (uc:=[.ref (.st [chX N u1 b2 es D v b3 xs]) 0, .ref (.st [uI (s:Int)]) 0]) (u1:=u1) (b2:=b2) (b3:=b3) (D:=D) (v:=v) (xs:=xs) (ok:=fun x=> !decide (x.a∈atC xs s))
     (nT hlim g1.next) hlk (nL hkH g1.next) (K1m g1 hkH hkF1) g1.lt he hok (c:=c) (pc:= .func 104 [] [.ptr ic 0, .ptr is 0]) (lc:=lc) (layer:=layer) (bl:=bl) (hc.mono (B.trans B2))
     (fun x _=>Z1d (M:=MM) hn hx hs) ⟨[],[.ptr ic 0, .ptr is 0],rfl,rfl,_,_,rfl,rfl,Z0q (by rw[B2.same ic (B.sub ic hicF)];exact hic1) (B2.sub ic (B.sub ic hicF)) rfl (hc.mono (B.trans B2)),_,_,rfl,rfl,Z0q (by rw[B2.same is (B.sub is hisF)];exact his1) (B2.sub is (B.sub is hisF)) rfl ⟨rfl,rfl⟩,rfl⟩
     (hm.mono B2) (K0l hlay (by omega)) hll hg2
    obtain⟨H',F',rc,k1,k2,k3⟩:=ih _ _ (m+2) H3 F3 oc b (A2.trans j2) j3 j4 (w0o hok layer hlay _ (fun p hp=>by cases hp)) (by omega) (by have:=w0n hN hok (ok:=fun x=> !decide (x.a∈atC xs s)) (layer:=layer) hnd;omega) (q0V hok layer _ hnd) hr
    simp only[Option.isSome_none,bF,iF,j1,oS,V.asC,k1]
    exact⟨H',F',rc,rfl,k2,k3⟩
def befR(es:List E3)(D:Nat->Nat->Bool)(xs:List (Bool×List Int))(s:Nat):Option (List Int):=
 if atC xs s=enabled es (s:Int)then some []else befF es D xs s 100 [(s:Int)] [([(s:Int)],(s:Int))]
theorem Z1P{H:Heap}{F:Nat->Prop}(hl:lim<=H.next)(hF: ∀i,F i->i<H.next)(hN:N<=60)(he:es.length<=2000)(hok: ∀e∈es,eOK (N:Int) e=true)(hn:xs.length=N)(hx: ∀x∈xs,x.2.length<=1000000){s:Nat}(hs:s<N)(hch: ∀q∈atC xs s,0<=q/\q<12)
  {c:C} (hc:UC H F (chX N u1 b2 es D v b3 xs) [c]) {r:List Int} (hr:befR es D xs s=some r):
  ∃H' F' rc,f81 (MH lim) c (s:Int) H=some (.c rc,H')/\FrX none H F H' F'/\UC H' F' (rowU r) [rc]:=by
 have A1:=FrX.allocF (H:=H) (F:=F) (.cells 1 [c]) hF
 have A2:=A1.trans (FrX.allocF (.cells 1 [.int .i64 (s:Int)]) A1.lt)
 have m2:=A2.le0 hF
 have n1:(H.alloc (.cells 1 [c])).next=H.next+1:=rfl
 have hic:((H.alloc (.cells 1 [c])).alloc (.cells 1 [.int .i64 (s:Int)])).get H.next=some (.cells 1 [c]):=by
  rw[q0g (by simp)];exact alloc_new _ _
 have his:((H.alloc (.cells 1 [c])).alloc (.cells 1 [.int .i64 (s:Int)])).get (H.alloc (.cells 1 [c])).next=some (.cells 1 [.int .i64 (s:Int)]):=alloc_new _ _
 obtain⟨v3,H3,F3,d1,d2,d3⟩:=z0V (lim:=lim) (f:=84) (us:=[chX N u1 b2 es D v b3 xs,uI (s:Int)]) (vs:=[.c c, .c (.int .i64 (s:Int))])
  (X0m (M:=MM) (u1:=u1) (b2:=b2) (b3:=b3) (D:=D) (v:=v) hok hn hx hs) rfl (nT hl A2.next) A2.lt ⟨_,_,rfl,⟨rfl,hc.mono m2⟩,_,_,rfl,z0o _,rfl⟩
 have hv3:=d3.bool
 subst hv3
 have d1':f84 (MH lim) c (s:Int) ((H.alloc (.cells 1 [c])).alloc (.cells 1 [.int .i64 (s:Int)]))=some (.c (.bool (decide (atC xs s=enabled es (s:Int)))),H3):=d1
 have A3:=A2.trans d2
 have m3:=d2.le0 A2.lt
 have q1:=ldX (o:=0) hic rfl
 have q2:=ldX (o:=0) his rfl
 rw[K1r]
 simp only[q1,q2,oS,C.asI,iT,d1',V.asC,C.asB]
 unfold befR at hr
 by_cases h0:atC xs s=enabled es (s:Int)
 ·rw[if_pos h0]at hr
  cases hr
  simp only[h0,dY,iT]
  exact⟨H3,F3, .nilSlice,rfl,A3, .inl ⟨rfl,rfl,rfl⟩⟩
 rw[if_neg h0]at hr
 have P4:=FrX.alloc (H:=H3) (F:=F3) (.map []) A3.lt
 have A4:=A3.trans P4
 have m4:=P4.le0 A3.lt
 have hkm:(H3.alloc (.map [])).get H3.next=some (.map []):=alloc_new _ _
 have hkF: ¬F3 H3.next:=fun h=>absurd (A3.lt _ h) (Nat.lt_irrefl _)
 have hic4:(H3.alloc (.map [])).get H.next=some (.cells 1 [c]):=by rw[(m3.trans m4).same _ (.inl (.inr rfl))];exact hic
 have his4:(H3.alloc (.map [])).get (H.alloc (.cells 1 [c])).next=some (.cells 1 [.int .i64 (s:Int)]):=by rw[(m3.trans m4).same _ (.inr rfl)];exact his
 have q4:=ldX (o:=0) his4 rfl
 have hms:Heap.mset lim (H3.alloc (.map [])) .int (.map H3.next) (.int .i64 (s:Int)) (.c (.bool true))=some ((H3.alloc (.map [])).put H3.next (.map ([(s:Int)].map ent))):=by
  unfold Heap.mset
  simp only[hkm]
  rw[if_pos (nT hl A3.next)]
  rfl
 have P5:=FrX.put (H:=H3.alloc (.map [])) (F:=F3) H3.next (.map ([(s:Int)].map ent)) A4.lt
 have m5:FLe _ F3 _ F3:=P5.le (fun i e=>by cases e;exact hkF) A4.lt
 have P6:=FrX.allocF (H:=(H3.alloc (.map [])).put H3.next (.map ([(s:Int)].map ent))) (F:=F3) (.cells 1 [.int .i64 (s:Int)]) P5.lt
 have P7:=FrX.allocF (.cells 2 [.slice ((H3.alloc (.map [])).put H3.next (.map ([(s:Int)].map ent))).next 0 1, .int .i64 (s:Int)]) P6.lt
 have his5:((H3.alloc (.map [])).put H3.next (.map ([(s:Int)].map ent))).get (H.alloc (.cells 1 [c])).next=some (.cells 1 [.int .i64 (s:Int)]):=by rw[m5.same _ (d2.sub _ (.inr rfl))];exact his4
 have q5:=ldX (o:=0) his5 rfl
 have q6:=ldX (o:=0) (show(((H3.alloc (.map [])).put H3.next (.map ([(s:Int)].map ent))).alloc (.cells 1 [.int .i64 (s:Int)])).get (H.alloc (.cells 1 [c])).next=some (.cells 1 [.int .i64 (s:Int)]) by
  rw[(P6.le0 P5.lt).same _ (d2.sub _ (.inr rfl))];exact his5) rfl
 have A7:FrX (some H3.next) (H3.alloc (.map [])) F3 _ _:=(P5.step P6).step P7
 obtain⟨H',F',rc,k1,k2,k3⟩:=k1v (lim:=lim) (km:=H3.next) (H0:=H3.alloc (.map [])) (F0:=F3) (u1:=u1) (b2:=b2) (b3:=b3) (D:=D) (v:=v) (c:=c) (ic:=H.next) (is:=(H.alloc (.cells 1 [c])).next)
  (nT hl A4.next) (nT hl A3.next) (Nat.lt_succ_self _) hkF A4.lt hN he hok hn hx hs hch hic4 (d2.sub _ (.inl (.inr rfl))) his4 (d2.sub _ (.inr rfl)) (hc.mono (m2.trans (m3.trans m4))) 100 [(s:Int)] [([(s:Int)],(s:Int))] 1 _ _ (.slice (((H3.alloc (.map [])).put H3.next (.map ([(s:Int)].map ent))).alloc (.cells 1 [.int .i64 (s:Int)])).next 0 1) true A7
  (by rw[q0g (by simp[Heap.alloc,Heap.put]<;>omega),q0g (by simp[Heap.alloc,Heap.put]<;>omega)];simp[Heap.put])
  (.inr ⟨rfl,_,0,_,2,rfl, .inr rfl,alloc_new _ _,by simp,by
   refine⟨[.slice ((H3.alloc (.map [])).put H3.next (.map ([(s:Int)].map ent))).next 0 1, .int .i64 (s:Int)],[],by simp,rfl, ?_,rfl⟩
   refine k1R (p:=([(s:Int)],(s:Int))) (.inr ⟨rfl,_,0,[.int .i64 (s:Int)],1,rfl, .inl (.inr rfl), ?_,by simp, ?_⟩)
   ·rw[q0g (by simp[Heap.alloc])];exact alloc_new _ _
   ·exact⟨[.int .i64 (s:Int)],[],by simp,rfl,⟨rfl,rfl⟩,rfl⟩⟩)
  (fun p hp=>by simp only[mC,List.not_mem_nil,or_false]at hp;subst hp;exact⟨⟨s,rfl,hs⟩,by simp⟩) (by omega) (by simp) ⟨by simp,fun k hk=>by simp only[mC,List.not_mem_nil,or_false]at hk;subst hk;omega⟩ hr
 simp only[h0,dF,bF,iF,iT,q4,oS,hms,q5,q6]
 exact⟨H',F',rc,k1,FrX.hide A4 k2 A3.next,k3⟩
end
end Go.Proofs.Ythjjbkiejkhjfaa.R
