/- - -/
import Derived.Test.YthjjbkiejkhjfaaWo
import Derived.Test.YthjjbkiejkhjfaaWx
import Derived.Test.YthjjbkiejkhjfaaSa
import Derived.Test.YthjjbkiejkhjfaaHa
set_option linter.all false
namespace Go.Proofs.Ythjjbkiejkhjfaa.R
open Go Go.Proofs.Ythjjbkiejkhjfaa.Vm
abbrev MH(lim:Nat):Mach:=⟨awExt 10,lim,true⟩
theorem z0V{lim:Nat}{f:FuncId}{us:List U}{r:Rz}{u:U}(h:ycall MM f us=some r)(hu:r.toU=some u){H:Heap}{F:Nat->Prop}{vs:List V}(hl:lim<=H.next)(hF: ∀i,F i->i<H.next)(hv:UVs H F us vs):
  ∃v H' F',mcall (MH lim) f vs H=some (v,H')/\FrX none H F H' F'/\UV H' F' u v:=
 Rz.callU (md:=md) (j0L (vext:=awExt 10) (yext:=yExt2) (prog:=progOf 10 prog true) (lim:=lim) k0x (J0G lim)) h hu hl hF hv
abbrev PE:=List Int×Int
def uP(p:PE):U:= .st [uIs true p.1,uI p.2]
def step3(ok:E3->Bool)(p:PE)(st:List Int×List PE)(x:E3):List Int×List PE:=
 if(ok x&& !decide (x.t∈st.1))=true then(st.1++[x.t],st.2++[(p.1++[x.a,x.t],x.t)])else st
def nextL(es:List E3)(ok:E3->Bool)(layer:List PE)(st:List Int×List PE):List Int×List PE:=layer.foldl (fun st p=>(mv es p.2).foldl (step3 ok p) st) st
section
variable{H:Heap}{F:Nat->Prop}
theorem K0D: ∀{us:List U} {cs:List C},UCs H F us cs->UVs H F us (cs.map .c)
 | [],cs,h=>by rw[UCs]at h;subst h;rfl
 |u::us,cs,h=>by
  obtain⟨c,cs',rfl,h1,h2,h3⟩:=h
  exact⟨.c c,cs'.map .c,rfl,⟨h1,h2⟩,K0D h3⟩
theorem K0E: ∀{us vs:List U} {xs ys:List V},UVs H F us xs->UVs H F vs ys->UVs H F (us++vs) (xs++ys)
 | [],vs,xs,ys,h,k=>by rw[UVs]at h;subst h;exact k
 |u::us,vs,xs,ys,h,k=>by
  obtain⟨v,xs',rfl,h1,h2⟩:=h
  exact⟨v,xs'++ys,rfl,h1,K0E h2 k⟩
theorem z0o(n:Int):UV H F (uI n) (.c (.int .i64 n)):=⟨rfl,rfl,rfl⟩
theorem J1D{u:U}{v:V}(h:UV H F u v):UVs H F [u] [v]:=⟨v,[],rfl,h,rfl⟩
theorem j1p(e:E3):UV H F (uE e) (.agg [.int .i64 e.f, .int .i64 e.t, .int .i64 e.a]):=
 ⟨_,rfl,_,_,rfl,rfl,⟨rfl,rfl⟩,_,_,rfl,rfl,⟨rfl,rfl⟩,_,_,rfl,rfl,⟨rfl,rfl⟩,rfl⟩
theorem K1l{e:E3}{xs:List C}(h:UC H F (uE e) xs):xs=[.int .i64 e.f, .int .i64 e.t, .int .i64 e.a]:=by
 obtain⟨c0,_,rfl,_,k1,c1,_,rfl,_,k2,c2,_,rfl,_,k3,rfl⟩:=h
 have e1:=z0l k1;have e2:=z0l k2;have e3:=z0l k3
 simp only[List.cons.injEq,and_true]at e1 e2 e3
 subst e1 e2 e3
 rfl
theorem k1Q{p:PE}{xs:List C}(h:UC H F (uP p) xs): ∃c,xs=[c, .int .i64 p.2]/\UC H F (uIs true p.1) [c]:=by
 obtain⟨c0,_,rfl,_,k1,c1,_,rfl,_,k2,rfl⟩:=h
 have e2:=z0l k2
 simp only[List.cons.injEq,and_true]at e2
 subst e2
 exact⟨c0,rfl,k1⟩
theorem k1R{p:PE}{c:C}(h:UC H F (uIs true p.1) [c]):UC H F (uP p) [c, .int .i64 p.2]:=
 ⟨c,_,rfl,rfl,h,_,_,rfl,rfl,⟨rfl,rfl⟩,rfl⟩
end
section
variable{N:Nat}{lim km:Nat}{H0 H1:Heap}{F0 F1:Nat->Prop}{es:List E3}{ok:E3->Bool}{g:FuncId}{ua uc:List U}
theorem K1m{H H':Heap}{F F':Nat->Prop}{x:Option Nat}(A:FrX x H F H' F'){km:Nat}(h:km<H.next)(h2: ¬F km): ¬F' km:=fun h3=>(A.new km h3).elim h2 fun h4=>by omega
theorem k1S(hl:lim<=H0.next)(hlk:lim<=km)(hk0:km<H0.next)(hkF: ¬F0 km){c pc x14 p0 mc:C}{x15 x16:Int}{p:PE}{ms:List E3}{bm:Bool}
  (hp: ∀x∈ms,ycall MM g (ua++[uE x]++uc)=some (.val (.c (.bool (ok x))))) (hpc:UC H1 F1 (.fn g ua uc) [pc]) (hp0:UC H1 F1 (uIs true p.1) [p0]) (hm:UC H1 F1 (.sl bm (ms.map uE)) [mc]) (hpl:p.1.length<=1000000) (hml:ms.length<=1000000):
  ∀(d k:Nat) (H:Heap) (F:Nat->Prop) (ks:List Int) (rows:List PE) (oc:C),k+d=ms.length->FrX (some km) H0 F0 H F->FLe H1 F1 H F->H.get km=some (.map (ks.map ent))->OutR H0.next H F 2 (rows.map uP) oc->rows.length+d<=1000000000->
  ∃H' F' oc',f87_2 (MH lim) c (.map km) pc oc p0 p.2 x14 x15 x16 mc (ms.length:Int) (k:Int) H=f87_1 (MH lim) c (.map km) pc oc' x14 x15 (IntKind.wrap .i64 (x16+1)) H'/\
   FrX (some km) H0 F0 H' F'/\H'.get km=some (.map (((ms.drop k).foldl (step3 ok p) (ks,rows)).1.map ent))/\OutR H0.next H' F' 2 (((ms.drop k).foldl (step3 ok p) (ks,rows)).2.map uP) oc':=by
 intro d
 induction d with
 |zero=>
  intro k H F ks rows oc hk A B hg ho _
  rw[W0G,dL (by omega)]
  simp only[show¬((k:Int)<(ms.length:Int)) by omega,dF,bF,iF]
  exact⟨H,F,oc,rfl,A,hg,ho⟩
 |succ d ih=>
  intro k H F ks rows oc hk A B hg ho hr
  have hlt:k<ms.length:=by omega
  have hlim:lim<=H.next:=nT hl A.next
  have hF:=A.lt
  have hkH:km<H.next:=nL hk0 A.next
  have hkF': ¬F km:=K1m A hk0 hkF
  obtain⟨i,o,z,cs,e1,_,e3,e4,e5⟩:=(hm.mono B).elem (k:=k) (u:=uE ms[k]) (by simp[hlt])
  rw[show U.size (uE ms[k])=3 from rfl]at e1 e4 e5
  have e6:=K1l e5
  have l0:=ldX e3 (j0P e6)
  have l1:=ldX e3 (j0Q e6)
  have l2:=ldX e3 (Q0J e6)
  obtain⟨a',b',hpe,hua,huc⟩:=hpc.mono B
  have hpe':pc= .func g a' b':=by simpa using hpe
  subst hpe'
  obtain⟨v,H2,F2,c1,c2,c3⟩:=z0V (lim:=lim) (hp ms[k] (lM hlt)) rfl hlim hF (K0E (K0E (K0D hua) (J1D (j1p ms[k]))) (K0D huc))
  have hv:=c3.bool
  subst hv
  have A2:FrX (some km) H0 F0 H2 F2:=A.trans c2.weak
  have B2:FLe H1 F1 H2 F2:=B.trans (c2.le0 hF)
  have hg2:H2.get km=some (.map (ks.map ent)):=by rw[c2.keep km hkH (by simp)];exact hg
  have ho2:OutR H0.next H2 F2 2 (rows.map uP) oc:=ho.fr c2 (fun i e=>by cases e) hF
  rw[W0G,q0c hlt,List.foldl_cons]
  simp only[show((k:Int)<(ms.length:Int)) by omega,dY,iT,e1,oS,l0,l1,l2,C.asI,C.asF,c1,V.asC,C.asB]
  cases hok:ok ms[k]with
  |false=>
   have hst:step3 ok p (ks,rows) ms[k]=(ks,rows):=by simp[step3,hok]
   simp only[bF,iF,oS,J0k,q0a (show k<=1000000000 by omega),hst]
   exact ih (k+1) H2 F2 ks rows oc (by omega) A2 B2 hg2 ho2 (by omega)
  |true=>
   have hgm:Heap.getMap H2 (.map km)=some (ks.map ent):=by unfold Heap.getMap;simp only[hg2]
   simp only[iT,hgm,oS,Z0H]
   by_cases hks:ms[k].t∈ks
   ·have hst:step3 ok p (ks,rows) ms[k]=(ks,rows):=by simp[step3,hks]
    simp only[hks,iT,Option.getD_some,V.asC,C.asB,oS,Bool.not_true,bF,iF,J0k,q0a (show k<=1000000000 by omega),hst]
    exact ih (k+1) H2 F2 ks rows oc (by omega) A2 B2 hg2 ho2 (by omega)
   ·have hst:step3 ok p (ks,rows) ms[k]=(ks++[ms[k].t],rows++[(p.1++[ms[k].a,ms[k].t],ms[k].t)]):=by simp[step3,hok,hks]
    have hms:Heap.mset lim H2 .int (.map km) (.int .i64 ms[k].t) (.c (.bool true))=some (H2.put km (.map ((ks++[ms[k].t]).map ent))):=by
     unfold Heap.mset
     simp only[hg2,hlk,iT,X0k _ _ hks,Option.map_some]
    have hF2:=A2.lt
    have hkF2: ¬F2 km:=K1m A2 hk0 hkF
    have P3:=FrX.put (H:=H2) (F:=F2) km (.map ((ks++[ms[k].t]).map ent)) hF2
    have A3:=A2.trans P3
    have B3:FLe H1 F1 _ F2:=B2.trans (P3.le (fun i e=>by cases e;exact hkF2) hF2)
    have ho3:=ho2.fr P3 (fun i e=>by cases e;exact⟨hk0,hkF2⟩) hF2
    obtain⟨v4,H4,F4,d1,d2,d3⟩:=z0V (lim:=lim) (f:=106) (us:=[.st [uIs true p.1,uI p.2],uE ms[k]]) (H:=H2.put km (.map ((ks++[ms[k].t]).map ent))) (F:=F2)
     (vs:=[.agg [p0, .int .i64 p.2], .agg [.int .i64 ms[k].f, .int .i64 ms[k].t, .int .i64 ms[k].a]])
     (Z1c (M:=MM) (l:=p.1) (at':=p.2) (x0:=ms[k].f) (x1:=ms[k].t) (x2:=ms[k].a) hpl) rfl (nT hl A3.next) A3.lt
     ⟨_,_,rfl,⟨_,rfl,k1R (p:=p) (hp0.mono B3)⟩,_,_,rfl,j1p ms[k],rfl⟩
    have d1':f106 (MH lim) p0 p.2 ms[k].f ms[k].t ms[k].a (H2.put km (.map ((ks++[ms[k].t]).map ent)))=some (v4,H4):=d1
    have A4:=A3.trans d2.weak
    have B4:=B3.trans (d2.le0 A3.lt)
    have ho4:=ho3.fr d2 (fun i e=>by cases e) A3.lt
    cases v4 with
    |c c=>exact absurd d3.1 (by simp[U.isSt])
    |tuple _=>exact absurd d3 id
    |agg xs=>
     obtain⟨us,eu,d4⟩:=d3
     cases eu
     obtain⟨c20,rfl,hc20⟩:=k1Q (p:=(p.1++[ms[k].a,ms[k].t],ms[k].t)) (xs:=xs) d4
     have P5:=FrX.alloc (H:=H4) (F:=F4) (.cells 2 [c20, .int .i64 ms[k].t]) A4.lt
     have A5:=A4.trans P5.weak
     have B5:=B4.trans (P5.le0 A4.lt)
     have ho5:=ho4.fr P5 (fun i e=>by cases e) A4.lt
     have hcell:Heap.cellsOf (H4.alloc (.cells 2 [c20, .int .i64 ms[k].t])) 2 (.slice H4.next 0 1)=some [c20, .int .i64 ms[k].t]:=by
      simp[Heap.cellsOf,Heap.ldN]
     obtain⟨oc',H6,g1,g2,g3,g4,g5⟩:=ho5.app (lim:=lim) hl A5.lt A5.next (k1R (p:=(p.1++[ms[k].a,ms[k].t],ms[k].t)) (hc20.mono (P5.le0 A4.lt))) rfl (by simp;omega)
     have A6:FrX (some km) H0 F0 H6 F4:=⟨nT A5.next g3,fun i hi hx=>(g5 i hi).trans (A5.keep i hi hx),A5.sub,A5.new,fun i hi=>nL (A5.lt i hi) g3⟩
     have hg6:H6.get km=some (.map ((ks++[ms[k].t]).map ent)):=by
      rw[g5 km hk0,q0g (nL hk0 A4.next),d2.keep km (nL hk0 A3.next) (by simp)]
      simp[Heap.put]
     have hnot:(if ms[k].t∈ks then some (V.c (.bool true))else none)=none:=if_neg hks
     have hmap:rows.map uP++[uP (p.1++[ms[k].a,ms[k].t],ms[k].t)]=(rows++[(p.1++[ms[k].a,ms[k].t],ms[k].t)]).map uP:=by simp
     rw[hmap]at g2
     obtain⟨H',F',oc2,j1,j2,j3,j4⟩:=ih (k+1) H6 F4 (ks++[ms[k].t]) (rows++[(p.1++[ms[k].a,ms[k].t],ms[k].t)]) oc' (by omega) A6 (B5.trans g4) hg6 g2 (by simp;omega)
     simp only[hnot,Option.getD_none,V.asC,C.asB,oS,Bool.not_false,iT,hms,d1',V.asA,headC,List.drop_succ_cons,List.drop_zero,C.asI,List.length_nil,hcell,g1,J0k,q0a (show k<=1000000000 by omega),j1,hst]
     exact⟨H',F',oc2,rfl,j2,j3,j4⟩
end
end Go.Proofs.Ythjjbkiejkhjfaa.R
