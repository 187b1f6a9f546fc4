/- - -/
import Derived.Test.YtglkhoamnmiolaaTn
set_option linter.all false
namespace Go.Proofs.Ytglkhoamnmiolaa.R
open Go Go.Proofs.Ytglkhoamnmiolaa.Vm
theorem k0J{n:Nat}{nx:Nat->List Nat}(hnx: ∀x,∀y∈nx x,y<n){k:Nat}: ∀(vs:List Nat) (σ σ':TS),(∀v∈vs,v<n)->TB n σ->visAll nx k vs σ=some σ'->TB n σ'
 | [],σ,σ',_,tb,h=>by simp only[visAll]at h;cases h;exact tb
 |v::vs,σ,σ',hv,tb,h=>by
  have hv': ∀u∈vs,u<n:=fun u hu=>hv u (by simp[hu])
  simp only[visAll]at h
  split at h
  ·rename_i h0
   obtain⟨σ1,g1,g2⟩:=oB.1 h
   exact k0J hnx vs σ1 σ' hv' (tb.on (K0a hnx k σ v σ1 h0 (hv v (by simp)) g1).1) g2
  ·exact k0J hnx vs σ σ' hv' tb h
theorem z1U(n:Nat):TB n TS.start:=by
 refine⟨?_,nR _,nR _,fun x hx=>(by cases hx)⟩
 show 0+rest n TS.start<=n
 unfold rest
 have:=List.length_filter_le (fun w=>decide (TS.start.num w=0)) (List.range n)
 rw[List.length_range]at this
 omega
theorem z1V{P:List Bool}{v:Nat}:P.getD v false=true↔inB P v:=by
 rw[lG]
 unfold inB
 cases P[v]? with
 |none=>simp
 |some b=>simp
theorem w1T{n m:Nat}{rows:List (Bool×List Int)}(hT:Table n rows){S:Nat->Nat->Prop}{s:Nat}(h:GoodN (nxL rows) m S s):s<n:=by
 obtain⟨⟨x,y,h1,⟨h2,_⟩,_⟩,_⟩:=h
 cases h2 with
 |refl=>exact z1o hT.1 ((j0b hT).1 h1)
 |step g _=>exact z1o hT.1 ((j0b hT).1 g)
section
variable{M:YM}{n:Nat}{rows:List (Bool×List Int)}(hT:Table n rows)(hn:n<=1000000)
include hT hn
theorem X0z: ∃σ,visAll (nxL rows) n (List.range n) TS.start=some σ/\ ∀(b1 b2 b3:Bool) (ls:List (List Bool)),(∀l∈ls,l.length=n)->ls.length<=1000000->
  ∃out,y92 M (uLs b1 rows) (uIs b2 (numsL n σ.of)) (.sl b3 (ls.map setU))=some (.sl ⟨true,1,uBs out⟩)/\out.length=n/\ ∀x,inB out x↔x<n/\GoodN (nxL rows) ls.length (fun k=>inB (ls.getD k [])) x:=by
 obtain⟨σ,h1,h2,h3⟩:=z1E (K0v hT) (nR n)
 refine⟨σ,h1,fun b1 b2 b3 ls hs hm=> ?_⟩
 have tb:=k0J (K0v hT) (List.range n) TS.start σ (fun v hv=>List.mem_range.1 hv) (z1U n) h1
 have hf:σ.f<=n:=by have:=tb.f;have:=tb.c;omega
 let of:Nat->Nat:=fun x=>(σ.of x).toNat
 have hof: ∀x,x<n->(numsL n σ.of)[x]? =some ((of x:Nat):Int):=fun x hx=>by
  rw[j0B hx]
  have:=(h2 x hx).1
  show some (σ.of x)=some (((σ.of x).toNat:Nat):Int)
  congr 1;omega
 have hN: ∀x,x<n->of x<1000000:=fun x hx=>by
  have:=h2 x hx
  show(σ.of x).toNat<1000000
  omega
 have hol:(numsL n σ.of).length=n:=by simp[numsL]
 have same: ∀x y,x<n->y<n->(of x=of y↔Both (nxL rows) x y):=fun x y hx hy=>by
  have:=h2 x hx;have:=h2 y hy
  refine Iff.trans ?_ (h3 x y hx hy)
  show(σ.of x).toNat=(σ.of y).toNat↔_
  constructor<;>intro h<;>omega
 obtain⟨N',a1,a2,a3⟩:=z1r (M:=M) hT hn hol hof hN (b1:=b1) (b2:=b2) (sets:= .sl b3 (ls.map setU)) n 0 0 (by omega) (by omega) (fun x hx=>absurd hx (Nat.not_lt_zero _))
 obtain⟨l1,c1,c2,c3⟩:=z1t (M:=M) hT hn hol hof a2 a1 (b1:=b1) (b2:=b2) (sets:= .sl b3 (ls.map setU)) n 0 (List.replicate N' false) (by omega) (by simp) (fun c=>⟨fun h=>absurd h q0R,fun⟨u,j,r,w,_,_,h,_⟩=>by omega⟩)
 obtain⟨out,d1,d2,d3⟩:=z1x (M:=M) hT hn hol hof a2 a1 (b1:=b1) (b2:=b2) (b3:=b3) hs hm ls.length 0 l1 (by omega) c1 (fun c=>by
  rw[c2]
  exact⟨fun h=>⟨h,fun j T hj=>absurd hj (Nat.not_lt_zero _)⟩,(·.1)⟩)
 refine⟨out, ?_,d1,fun x=> ?_⟩
 ·rw[Q1V]
  simp only[len_uIs,hol,oS]
  rw[show((0:Nat):Int)=0 from rfl]at a3 d3
  rw[a3]
  rw[show(0:Int)=((0:Nat):Int)from rfl,c3 _ (Y0M b3 ls)]
  exact d3
 ·rw[d2]
  constructor
  ·rintro⟨hx,⟨u,j,r,w,g1,g2,_,g3,g4⟩,hk⟩
   refine⟨hx,⟨u,w, ?_, ?_, ?_⟩,fun k hk'=> ?_⟩
   ·rw[k1I g1];exact List.mem_map.2 ⟨_,List.mem_of_getElem? g2,by simp⟩
   ·have hu:u<n:=by have:=(gE.1 g1).1;rw[hT.1]at this;exact this
    exact(same x u hx hu).1 g3.symm
   ·have hw:=hT.2.1 r (List.mem_of_getElem? g1) _ (List.mem_of_getElem? g2)
    exact(same x w hx (by omega)).1 g4.symm
   ·obtain⟨u,u1,u2,u3⟩:=hk k ls[k] (q0a hk')
    refine⟨u,(same x u hx u1).1 u2.symm, ?_⟩
    show inB (ls.getD k []) u
    rw[lG,q0a hk']
    exact u3
  ·rintro⟨hx,⟨u,w,g1,g2,g3⟩,hk⟩
   have huw:=w1t hT ((j0b hT).1 g1)
   have hm1:=(j0b hT).1 g1
   have hr:rows[u]? =some (rows.getD u (false,[])):=by
    rw[lG,List.getElem?_eq_getElem (by rw[hT.1];exact huw.1)];rfl
   obtain⟨j,hj⟩:=List.mem_iff_getElem?.1 hm1
   refine⟨hx,⟨u,j,_,w,hr,hj, .inl huw.1,((same x u hx huw.1).2 g2).symm,((same x w hx huw.2).2 g3).symm⟩,fun k T hkT=> ?_⟩
   have hkl:=(gE.1 hkT).1
   obtain⟨t,t1,t2⟩:=hk k hkl
   replace t2:inB (ls.getD k []) t:=t2
   rw[lG,hkT]at t2
   have htn:t<n:=by
    have h1:=(gE.1 (show T[t]? =some true from t2)).1
    rw[hs T (List.mem_of_getElem? hkT)]at h1;exact h1
   exact⟨t,htn,((same x t hx htn).2 t1).symm,t2⟩
theorem Z0a:Table n (revT rows):=by
 unfold revT
 rw[hT.1]
 refine J0T (fun p hp=> ?_) (by rw[w0B];exact hT.2.2)
 obtain⟨k,r,h1,h2,_⟩:=(Q0P 0 rows p.1 p.2).1 hp
 have:=(gE.1 h1).1
 rw[hT.1]at this
 omega
theorem q1g{s v:Nat}:Rch (nxL (revT rows)) s v↔Rch (nxL rows) v s:=by
 have hr:=k1J hT
 have hT':=Z0a hT hn
 have e: ∀u w,w∈nxL (revT rows) u↔u∈nxL rows w:=fun u w=>by
  rw[j0b hT',j0b hT]
  exact hr.iff w u
 constructor
 ·intro h
  induction h with
  |refl u=>exact .refl u
  |step h1 _ ih=>exact ih.trans (.one ((e _ _).1 h1))
 ·intro h
  induction h with
  |refl u=>exact .refl u
  |step h1 _ ih=>exact ih.trans (.one ((e _ _).2 h1))
end
noncomputable def trimR(a:Nat)(l:List Int)(es:List E4)(xs:List (Bool×List Int)):List U:=
 [.st [uI ((oldL (usefulL a l es xs) a).length:Nat),uIs (!(keptL (numF (usefulL a l es xs) a) l).isEmpty) (keptL (numF (usefulL a l es xs) a) l),uEs (!(keptE (numF (usefulL a l es xs) a) es).isEmpty) (keptE (numF (usefulL a l es xs) a) es),uLs (!(keptX (numF (usefulL a l es xs) a) xs).isEmpty) (keptX (numF (usefulL a l es xs) a) xs)],
  uIs (!(oldL (usefulL a l es xs) a).isEmpty) (oldL (usefulL a l es xs) a)]
section
variable{lim:Nat}{M:YM}(hM:CallsY lim M.ext){H:Heap}{F:Nat->Prop}{a:Nat}{b1 b2 b3:Bool}{l:List Int}{es:List E4}{xs:List (Bool×List Int)}{c1 c2 c3:C}
variable(A:AU lim H F H.next a l es xs b1 b2 b3 c1 c2 c3)
include hM A
theorem w1U: ∃(ws:List V) (H':Heap) (F':Nat->Prop),f64 (MH lim) (a:Int) c1 c2 c3 H=some (.tuple ws,H')/\FrX none H F H' F'/\UVs H' F' (trimR a l es xs) ws:=by
 have ha:=A.ha;have hx8:=A.hx;have he:=A.he;have hlim:=A.hl
 have hT:Table a (rowsU a es):=A.tab
 obtain⟨cs,Ha,bb,p1,p2,p3,p4⟩:=w1r hM A
 have n1:=p2.next
 obtain⟨σ,s1,s2⟩:=X0z (M:=M) hT (by omega)
 obtain⟨j,Hb,q1,q2,q3,q4,q5⟩:=J1A hM p3 (nT hlim n1) (fun i hi=>hi.elim (fun h=>nL (A.hF i h) n1) (·.2)) hT (by omega) s1
 have n2:=q2.next
 obtain⟨E,e1,e2,e3⟩:=s2 true true bb (setsU a xs) (fun l hl=>by obtain⟨x,_,rfl⟩:=List.mem_map.1 hl;simp) (by simp[setsU];omega)
 let F2:Nat->Prop:=fun i=>F i\/(H.next<=i/\i<Hb.next)
 have hF2: ∀i,F2 i->i<Hb.next:=fun i hi=>hi.elim (fun h=>by have:=A.hF i h;omega) (·.2)
 have hF12: ∀i,(F i\/(H.next<=i/\i<Ha.next))->F2 i:=fun i hi=>hi.imp id fun h=>⟨h.1,by omega⟩
 have hlow: ∀i,(F i\/(H.next<=i/\i<Ha.next))->i<Ha.next:=fun i hi=>hi.elim (fun h=>by have:=A.hF i h;omega) (·.2)
 have ug:UC Hb F2 (uLs true (rowsU a es)) [.slice H.next 0 a]:=p3.mono ⟨hF12,fun i hi=>q2.keep i (hlow i hi)⟩
 have us:UC Hb F2 (.sl bb ((setsU a xs).map setU)) [cs]:=p4.mono ⟨hF12,fun i hi=>q2.keep i (hlow i hi)⟩
 have uo:UC Hb F2 (uIs true (numsL a σ.of)) [.slice j 0 a]:=Y0A (.inr ⟨by omega,q4⟩) q5
 obtain⟨je,pe,Hc,F3,r1,r2,r3,r4,r5,r6⟩:=w1w hM (f:=92) rfl (us:=[uLs true (rowsU a es),uIs true (numsL a σ.of), .sl bb ((setsU a xs).map setU)]) (vs:=[.c (.slice H.next 0 a), .c (.slice j 0 a), .c cs]) e1 (by omega) hF2 ⟨_,_,rfl,⟨rfl,ug⟩,_,_,rfl,⟨rfl,uo⟩,_,_,rfl,⟨rfl,us⟩,rfl⟩
 rw[e2]at r1
 have n3:=r2.next
 have hF3:=r2.lt
 have ugc:UC Hc F3 (uLs true (rowsU a es)) [.slice H.next 0 a]:=ug.mono ⟨r2.sub,fun i hi=>r2.keep i (hF2 i hi) (fun e=>by cases e)⟩
 have t0:=TabO.new Hc a
 rw[<-w0n]at t0
 obtain⟨He,w1,w2,w3⟩:=Y0P (M:=MH lim) (a0:=(a:Int)) (a1:=c1) (a2:=c2) (a3:=c3) (y0:=0) (y1:= .nilSlice) (y2:= .nilSlice) (y3:= .nilSlice) (en:= .slice je pe a) (show lim<=Hc.next by omega) hF3 (by omega) hT ugc (rowsU a es).length 0 (Hc.alloc (.cells 1 (List.replicate a [C.nilSlice]).flatten)) [] (Nat.zero_add _) (by rw[List.drop_zero,w0B];have:=hT.2.2;simpa using this) ⟨Nat.le_succ _,fun i hi=>q0f hi⟩ t0
 rw[List.drop_zero,List.nil_append]at w3
 have n4:Hc.next<He.next:=w3.1
 have uag:UC He (fun i=>Hc.next<=i/\i<He.next) (uLs true (revT (rowsU a es))) [.slice Hc.next 0 a]:=by
  have:=w3.uc (F:=fun i=>Hc.next<=i/\i<He.next) fun i hi hi2=>⟨hi,hi2⟩
  rw[j0e]at this
  unfold revT
  rw[hT.1]
  exact this
 have hHe:BM He je pe E:=r6.keep (w2.old je r4)
 obtain⟨Hf,E',f1,f2,f3,f4,f5,f6⟩:=q1M (M:=MH lim) (H1:=He) (jm:=je) (pm:=pe) (show lim<=je by omega) (by omega) (fun i hi=>⟨hi.2,by have:=hi.1;omega⟩) uag (Z0a hT (by omega)) (by omega) e2 hHe
 have bm0:BM (Hf.alloc (.cells 1 (List.replicate a [C.bool false]).flatten)) Hf.next 0 (List.replicate a false):=⟨_,alloc_new _ _,by rw[k0j];simp,by rw[k0j];simp⟩
 generalize hHg:Hf.alloc (.cells 1 (List.replicate a [C.bool false]).flatten)=Hg at bm0
 have kg: ∀i,i<Hf.next->Hg.get i=Hf.get i:=fun i hi=>by rw[<-hHg,q0f hi]
 have ng:Hg.next=Hf.next+1:=by rw[<-hHg,alloc_next]
 have kef: ∀i,i<Hb.next->Hf.get i=Hb.get i:=fun i hi=>by rw[f3 i (by omega) (by omega),w2.old i (by omega),r2.keep i hi (fun e=>by cases e)]
 have kaf: ∀i,i<Ha.next->Hf.get i=Ha.get i:=fun i hi=>by rw[kef i (by omega),q2.keep i hi]
 have k0f: ∀i,i<H.next->Hf.get i=H.get i:=fun i hi=>by rw[kaf i (by omega),p2.keep i hi]
 have u1g:UC Hg F (uIs b1 l) [c1]:=A.u1.mono ⟨fun _ h=>h,fun i hi=>by have:=A.hF i hi;rw[kg i (by omega),k0f i this]⟩
 obtain⟨Hh,z1,z2,z3,z4⟩:=Y0Q (M:=MH lim) (F:=F) (a0:=(a:Int)) (a2:=c2) (a3:=c3) (y0:=0) (y1:= .nilSlice) (y2:= .nilSlice) (y3:= .nilSlice) (en:= .slice je pe a) (g:= .slice H.next 0 a) (j:=Hf.next) (n:=a) (show lim<=Hf.next by omega) (fun h=>by have:=A.hF _ h;omega) u1g A.hls.2 A.hls.1 l.length 0 Hg (List.replicate a false) (by omega) (by simp) bm0 rfl (fun _ _=>rfl) (fun x=>⟨fun h=>absurd h q0R,fun h=>by simp at h⟩)
 have ugh:UC Hh (fun i=>F i\/(H.next<=i/\i<Ha.next)) (uLs true (rowsU a es)) [.slice H.next 0 a]:=p3.mono ⟨fun _ h=>h,fun i hi=>by have:=hlow i hi;rw[z4 i (by omega),kg i (by omega),kaf i this]⟩
 obtain⟨Hi,B,g1,g2,g3,g4,g5,g6⟩:=q1M (M:=MH lim) (H1:=Hh) (jm:=Hf.next) (pm:=0) (show lim<=Hf.next by omega) (by omega) (fun i hi=>by have:=hlow i hi;exact⟨by omega,by omega⟩) ugh hT (by omega) (markL_len a l) z2
 have o1:Ints (Hi.alloc (.cells 1 [.int .i64 (-1)])) (.slice Hi.next 0 1) [-1]:=⟨fun r hr=>by obtain⟨x,_,rfl⟩:=List.mem_map.1 hr;rfl, .inr ⟨Hi.next,0,1,_,rfl,by simp,alloc_new _ _,by simp,rfl⟩⟩
 obtain⟨jn,Hj,h1,h2,h3,h4,h5⟩:=w1c hM o1 (n:=a) (by omega) (by simp;omega)
 have n5:=h2.next
 simp only[alloc_next]at n5 h3
 have kj: ∀i,i<Hi.next->Hj.get i=Hi.get i:=fun i hi=>by rw[h2.keep i (by simp;omega),q0f hi]
 have st1:=j0f (lim:=(MH lim).lim) (x:= .slice jn 0 a) (alloc_new Hj (.cells 1 [C.nilSlice])) (show lim<=Hj.next by omega) (o:=0) (by simp)
 generalize hHl:(Hj.alloc (.cells 1 [C.nilSlice])).put Hj.next _=Hl at st1
 have gl:Hl.get Hj.next=some (.cells 1 [.slice jn 0 a]):=by rw[<-hHl,put_same];rfl
 have kl: ∀i,i<Hj.next->Hl.get i=Hj.get i:=fun i hi=>by rw[<-hHl,q0d (by omega),q0f hi]
 have nl:Hl.next=Hj.next+1:=by rw[<-hHl];rfl
 have kil: ∀i,i<Hi.next->Hl.get i=Hi.get i:=fun i hi=>by rw[kl i (by omega),kj i hi]
 have kfi: ∀i,i<Hf.next->Hi.get i=Hf.get i:=fun i hi=>by rw[g3 i (by omega) (by omega),z4 i (by omega),kg i hi]
 have bmE:BM Hl je pe E':=f4.keep (by rw[kil je (by omega),kfi je (by omega)])
 have bmB:BM Hl Hf.next 0 B:=g4.keep (kil _ (by omega))
 have hPb: ∀v,v<a->((usefulL a l es xs).getD v false=true↔inB E' v/\inB B v):=fun v hv=>by
  rw[z1V,Q0n,f6,g6]
  have el:(setsU a xs).length=xs.length:=by simp[setsU]
  have hinf:=j1N hT (m:=xs.length) (S:=fun k=>inB ((setsU a xs).getD k [])) (v:=v)
  rw[hinf]
  constructor
  ·rintro⟨_,⟨u,u1,u2⟩,s,s1,s2⟩
   exact⟨⟨u,(e3 u).2 ⟨w1T hT u2,by rw[el];exact u2⟩,(q1g hT (by omega)).2 u1⟩,s,inB_mark.2 ⟨by have:=A.hls.2 _ s1;omega,s1⟩,s2⟩
  ·rintro⟨⟨u,u1,u2⟩,s,s1,s2⟩
   have:=((e3 u).1 u1).2
   rw[el]at this
   exact⟨hv,⟨u,(q1g hT (by omega)).1 u2,this⟩,s,(inB_mark.1 s1).2,s2⟩
 have hnum0:Hl.get jn=some (.cells 1 (fc a (numF (usefulL a l es xs) 0))):=by
  rw[kl jn h4,h5,<-w0p]
  have e0:numF (usefulL a l es xs) 0=fun _=> -1:=by
   funext v
   unfold numF
   rw[if_neg (fun h=>absurd h.1 (Nat.not_lt_zero _))]
  rw[e0]
 obtain⟨Hm,co,m1,m2,m3,m4,m5⟩:=Y0R (M:=MH lim) (n:=a) (jn:=jn) (pn:=Hj.next) (je:=je) (pe:=pe) (jb:=Hf.next) (pb:=0) (P:=usefulL a l es xs) (a0:=(a:Int)) (a1:=c1) (a2:=c2) (a3:=c3) (y0:=0) (y1:= .nilSlice) (y2:= .nilSlice) (y3:= .nilSlice) (Hs:=Hl) (by omega) f5 g5 hPb ⟨by omega,by omega,by omega,by omega⟩ ⟨by omega,by omega,by omega⟩ (show lim<=jn by omega) bmE bmB gl a 0 Hl .nilSlice (by omega) hnum0 (Own.nil (nR _) 1) (fun _=>rfl) (fun _ _ _=>rfl)
 have nm:=m3.1
 have gpm:Hm.get Hj.next=some (.cells 1 [.slice jn 0 a]):=by rw[m5 _ (by omega) (by omega)];exact gl
 have k0m: ∀i,i<H.next->Hm.get i=H.get i:=fun i hi=>by rw[m5 i (by omega) (by omega),kil i (by omega),kfi i (by omega),k0f i hi]
 let F4:Nat->Prop:=fun i=>F i\/i=jn\/i=Hj.next
 have hF4: ∀i,F4 i->i<Hm.next:=fun i hi=>by
  rcases hi with h |h |h
  ·have:=A.hF i h;omega
  ·omega
  ·omega
 have u1m:UC Hm F4 (uIs b1 l) [c1]:=A.u1.mono ⟨fun _ h=> .inl h,fun i hi=>k0m i (A.hF i hi)⟩
 obtain⟨v,Hn,F5,y1,y2,y3⟩:=X0y hM (f:=96) (us:=[uIs b1 l, .ref (.sl true ((numsL a (numF (usefulL a l es xs) a)).map uI)) 0]) (vs:=[.c c1, .c (.ptr Hj.next 0)]) (k1K (M:=M) (num:=numF (usefulL a l es xs) a) (bn:=true) (b:=b1) A.hls.2 A.hls.1) rfl (show lim<=Hm.next by omega) hF4 (Q1t ⟨rfl,u1m⟩ ⟨rfl,k1U hM gpm m2 (.inr (.inr rfl)) (.inr (.inl rfl))⟩)
 rw[J0H]at y3
 obtain⟨vc,rfl,y4⟩:=y3.one rfl
 have n6:=y2.next
 have kn: ∀i,i<Hm.next->Hn.get i=Hm.get i:=fun i hi=>y2.keep i hi (fun e=>by cases e)
 have hFF5: ∀i,F i->F5 i:=fun i hi=>y2.sub i (.inl hi)
 have u2n:UC Hn F5 (uEs b2 es) [c2]:=A.u2.mono ⟨hFF5,fun i hi=>by have:=A.hF i hi;rw[kn i (by omega),k0m i this]⟩
 obtain⟨Ho,ce,o1,o2,o3,o4⟩:=Y0z (lim:=lim) (Hs:=Hn) (F:=F5) (a:=a) (jn:=jn) (pn:=Hj.next) (num:=numF (usefulL a l es xs) a) (a0:=(a:Int)) (a1:=c1) (a3:=c3) (y0:=0) (y1:= .nilSlice) (y2:= .nilSlice) (y3:= .nilSlice) (old:=co) (kept:= .func 96 [] [.ptr Hj.next 0]) (o0:=((oldL (usefulL a l es xs) a).length:Nat)) (o1:=vc) (o3:= .nilSlice) (by omega) y2.lt (by omega) (by omega) (by rw[kn _ (by omega)];exact gpm) (by rw[kn _ (by omega)];exact m2) u2n A.ok he es.length 0 Hn .nilSlice (by omega) (.refl _) .nil (fun _=>rfl)
 have n7:=o2.next
 have u3o:UC Ho F5 (uLs b3 xs) [c3]:=A.u3.mono ⟨hFF5,fun i hi=>by have:=A.hF i hi;rw[o2.keep i (by omega),kn i (by omega),k0m i this]⟩
 obtain⟨Hp,G,cx,x1,x2,x3,x4,x5,x6,x7⟩:=Y0B hM (Hs:=Ho) (F:=F5) (a:=a) (jn:=jn) (pn:=Hj.next) (num:=numF (usefulL a l es xs) a) (y0:=0) (y1:= .nilSlice) (y2:= .nilSlice) (y3:= .nilSlice) (old:=co) (o0:=((oldL (usefulL a l es xs) a).length:Nat)) (o1:=vc) (o2:=ce) (by omega) (fun i hi=>nL (y2.lt i hi) n7) (by omega) (by omega) (y2.sub _ (.inr (.inl rfl))) (y2.sub _ (.inr (.inr rfl))) (by rw[o2.keep _ (by omega),kn _ (by omega)];exact gpm) (by rw[o2.keep _ (by omega),kn _ (by omega)];exact m2) u3o A.hxs hx8 xs.length 0 Ho F5 .nilSlice (by omega) (.refl _) (fun _ h=>h) (fun i hi=>nL (y2.lt i hi) n7) (fun _ h=> .inl h) .nil (fun _=>rfl)
 have n8:=x2.next
 have hF5: ∀i,F5 i->(F i\/(H.next<=i/\i<Hn.next)):=fun i hi=>by
  have hlt:=y2.lt i hi
  rcases y2.new i hi with(h |h |h) |h
  ·exact .inl h
  ·exact .inr ⟨by omega,hlt⟩
  ·exact .inr ⟨by omega,hlt⟩
  ·exact .inr ⟨by omega,hlt⟩
 have keepP: ∀i,i<Hm.next->Hp.get i=Hm.get i:=fun i hi=>by rw[x2.keep i (by omega),o2.keep i (by omega),kn i hi]
 refine⟨[.agg [.int .i64 ((oldL (usefulL a l es xs) a).length:Nat),vc,ce,cx], .c co],Hp,fun i=>F i\/(H.next<=i/\i<Hp.next), ?_,⟨by omega,fun i hi _=>by rw[keepP i (by omega),k0m i hi],fun i h=> .inl h,fun i h=>h.imp id (·.1),fun i h=>h.elim (fun h=>by have:=A.hF i h;omega) (·.2)⟩, ?_⟩
 ·have q92:f92 (MH lim) (.slice H.next 0 a) (.slice j 0 a) cs Hb=some (.c (.slice je pe a),Hc):=r1
  have q96:f96 (MH lim) c1 (.ptr Hj.next 0) Hm=some (.c vc,Hn):=y1
  have clen:C.len co=some (oldL (usefulL a l es xs) a).length:=by have:=m3.ints.len;simpa using this
  have hb:(0:Int)<=(a:Int)/\(a:Int)<=2 ^ 36:=by omega
  have l2:C.len c2=some es.length:=J1o A.u2
  have l3:C.len c3=some xs.length:=w1M A.u3
  have l1:C.len c1=some l.length:=Q1s A.u1
  rw[show((0:Nat):Int)=0 from rfl]at w1 z1 m1 o1 x1
  rw[J1b]
  simp only[p1,oS,ext_tuple,List.getElem?_cons_zero,List.getElem?_cons_succ,asC_c,q1,q92,len_slice,hb,and_self,iT,iN]
  rw[w1,W0f]
  simp only[Int.lt_irrefl,dF,bF,iF,f1,oS,len_slice,hb,and_self,iT,iN,l1,hHg]
  rw[z1,W0h]
  simp only[Int.lt_irrefl,dF,bF,iF,g1,oS,len_slice,h1,asC_c,st1]
  rw[m1,W0i]
  simp only[Int.lt_irrefl,dF,bF,iF,clen,oS,q96,asC_c,l2]
  rw[o1,W0k]
  simp only[Int.lt_irrefl,dF,bF,iF,l3,oS]
  rw[x1]
 ·have gnp:Grow Hn Hp:=o2.trans x2
  have u18:UC Hp (fun i=>F i\/(H.next<=i/\i<Hp.next)) (uIs (!(keptL (numF (usefulL a l es xs) a) l).isEmpty) (keptL (numF (usefulL a l es xs) a) l)) [vc]:=
   (ucg y4 gnp y2.lt).mono ⟨fun i hi=>(hF5 i hi).imp id fun h=>⟨h.1,by omega⟩,fun _ _=>rfl⟩
  have uce:UC Hp (fun i=>F i\/(H.next<=i/\i<Hp.next)) (uEs (!(keptE (numF (usefulL a l es xs) a) es).isEmpty) (keptE (numF (usefulL a l es xs) a) es)) [ce]:=by
   have h:=Y0U (F':=fun i=>F i\/(H.next<=i/\i<Ho.next)) o3 (fun h=>o4 (List.map_eq_nil_iff.1 h)) (fun i hi=>(hF5 i hi).imp id fun h=>⟨h.1,by omega⟩) (fun i h1 h2=> .inr ⟨by omega,h2⟩)
   rw[List.isEmpty_map]at h
   exact(ucg h x2 (fun i hi=>hi.elim (fun h=>by have:=A.hF i h;omega) (·.2))).mono ⟨fun i hi=>hi.imp id fun h=>⟨h.1,by omega⟩,fun _ _=>rfl⟩
  have ucx:UC Hp (fun i=>F i\/(H.next<=i/\i<Hp.next)) (uLs (!(keptX (numF (usefulL a l es xs) a) xs).isEmpty) (keptX (numF (usefulL a l es xs) a) xs)) [cx]:=by
   have h:=Y0U (F':=fun i=>F i\/(H.next<=i/\i<Hp.next)) x6 (fun h=>x7 (List.map_eq_nil_iff.1 h)) (fun i hi=>by
    have hlt:=x4 i hi
    rcases x5 i hi with h |h
    ·exact(hF5 i h).imp id fun h=>⟨h.1,by omega⟩
    ·exact .inr ⟨by omega,hlt⟩) (fun i h1 h2=> .inr ⟨by omega,h2⟩)
   rw[List.isEmpty_map]at h
   exact h
  have uco:UC Hp (fun i=>F i\/(H.next<=i/\i<Hp.next)) (uIs (!(oldL (usefulL a l es xs) a).isEmpty) (oldL (usefulL a l es xs) a)) [co]:=by
   have gmp:Grow Hm Hp:=⟨by omega,keepP⟩
   exact k1Y (Own.grow m3 gmp) m4 (fun i h1 h2=> .inr ⟨by omega,h2⟩)
  exact⟨_,_,rfl,⟨_,rfl,_,_,rfl,rfl,⟨rfl,rfl⟩,_,_,rfl,rfl,u18,_,_,rfl,rfl,uce,_,_,rfl,rfl,ucx,rfl⟩,_,_,rfl,⟨rfl,uco⟩,rfl⟩
end
end Go.Proofs.Ytglkhoamnmiolaa.R
