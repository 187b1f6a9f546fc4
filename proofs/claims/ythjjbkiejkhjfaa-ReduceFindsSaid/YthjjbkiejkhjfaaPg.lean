/- - -/
import Derived.Test.YthjjbkiejkhjfaaPf
set_option linter.all false
namespace Go.Proofs.Ythjjbkiejkhjfaa.R
open Go Go.Proofs.Ythjjbkiejkhjfaa.Vm
def xsU(ls:List (List Int)):List (Bool×List Int):=ls.map fun l=>(!l.isEmpty,l)
theorem k0V(ls:List (List Int))(k:Nat):atC (xsU ls) k=ls.getD k []:=by
 unfold atC xsU
 rw[lG,lG,List.getElem?_map]
 cases ls[k]? <;>rfl
def tryL(es:List E3)(N:Nat)(v:Nat->Bool)(s:Nat)(L:List (List Int)):List Int->List (List Int)
 | []=>L
 |a::r=>if(fault1 es N (xsU (L.set s [a])) v s).isSome=false then L.set s [a]else tryL es N v s L r
def loop1(es:List E3)(N:Nat)(v:Nat->Bool):Nat->Nat->List (List Int)->List (List Int)
 | 0,_,L=>L
 |d+1,s,L=>loop1 es N v d (s+1) (tryL es N v s (L.set s (enabled es (s:Int))) (enabled es (s:Int)))
def loop2(es:List E3):Nat->Nat->List (List Int)->List (List Int)
 | 0,_,L=>L
 |d+1,s,L=>loop2 es d (s+1) (if cirR es (xsU L) s=some []then L else L.set s (enabled es (s:Int)))
theorem K1K{lim:Nat}{f:FuncId}{us:List U}{r:Rz}{u:U}(h:ycall M3 f us=some r)(hu:r.toU=some u){H:Heap}{F:Nat->Prop}{vs:List V}(hl:lim<=H.next)(hF: ∀i,F i->i<H.next)(hv:UVs H F us vs):
  ∃v H' F',mcall (MH lim) f vs H=some (v,H')/\FrX none H F H' F'/\UV H' F' u v:=
 Rz.callU (md:=md) (j0L (vext:=awExt 10) (yext:=yExt3) (prog:=progOf 10 prog true) (lim:=lim) k0x (J0c lim)) h hu hl hF hv
structure CI (lim N:Nat) (u1:U) (b2:Bool) (es:List E3) (v:Nat->Bool) (io ia:Nat) (gc:C) (ls:List (List Int)) (H:Heap) (F:Nat->Prop):Prop where
 hio:H.get io=some (.cells 158 (chC gc (DD es N) v (.slice ia 0 N)))
 hia: ∃cs,H.get ia=some (.cells 1 cs)/\cs.length=N/\ ∀(k:Nat) l c,ls[k]? =some l->cs[k]? =some c->UC H F (rowU l) [c]
 hgc:UC H F (openU N u1 b2 es) [gc]
 fo:F io
 fa: ¬F ia
 lt:ia<H.next
 lm:lim<=ia
 len:ls.length=N
 fl: ∀i,F i->i<H.next
section
variable{lim N:Nat}{u1:U}{b2:Bool}{es:List E3}{v:Nat->Bool}{io ia:Nat}{gc:C}{ls:List (List Int)}{H H':Heap}{F F':Nat->Prop}
theorem CI.keep(h:CI lim N u1 b2 es v io ia gc ls H F)(f:FrX none H F H' F'):CI lim N u1 b2 es v io ia gc ls H' F':=by
 have m:=f.le0 h.fl
 obtain⟨cs,h1,h2,h3⟩:=h.hia
 refine⟨by rw[m.same io h.fo];exact h.hio,⟨cs,by rw[f.keep ia h.lt (by simp)];exact h1,h2,fun k l c a b=>(h3 k l c a b).mono m⟩,h.hgc.mono m,m.sub _ h.fo,fun h4=> ?_,nL h.lt f.next,h.lm,h.len,f.lt⟩
 rcases f.new ia h4 with h5 |h5
 ·exact h.fa h5
 ·have:=h.lt;omega
theorem CI.keep0(h:CI lim N u1 b2 es v io ia gc ls H F){G G':Nat->Prop}(f:FrX none H G H' G'):CI lim N u1 b2 es v io ia gc ls H' F:=
 h.keep ⟨f.next,f.keep,fun _ h=>h,fun _ h=> .inl h,fun i hi=>nL (h.fl i hi) f.next⟩
theorem CI.lt_next(h:CI lim N u1 b2 es v io ia gc ls H F):lim<=H.next:=by have:=h.lm;have:=h.lt;omega
theorem CI.uc(h:CI lim N u1 b2 es v io ia gc ls H F):UC H (fun i=>F i\/i=ia) (chX N u1 b2 es (DD es N) v true (xsU ls)) [.ptr io 0]:=by
 have m:FLe H F H (fun i=>F i\/i=ia):=⟨fun i hi=> .inl hi,fun _ _=>rfl⟩
 obtain⟨cs,h1,h2,h3⟩:=h.hia
 refine K1j h.hio (.inl h.fo) (h.hgc.mono m) rfl (.inr ⟨rfl,ia,0,cs,1,by simp[xsU,h.len], .inr rfl,h1,by simp[xsU,h.len,h2], ?_⟩) rfl
 rw[List.drop_zero,List.take_of_length_le (by simp[xsU,h.len,h2])]
 refine J0V (by simp[xsU,h.len,h2]) fun k u c hu hc=> ?_
 simp only[xsU,List.map_map,List.getElem?_map]at hu
 obtain⟨l,hl,rfl⟩:=oM.1 hu
 exact(h3 k l c hl hc).mono m
theorem CI.flp(h:CI lim N u1 b2 es v io ia gc ls H F): ∀i,(F i\/i=ia)->i<H.next:=fun i hi=>hi.elim (h.fl i) fun e=>by rw[e];exact h.lt
theorem CI.store(h:CI lim N u1 b2 es v io ia gc ls H F){s:Nat}(hs:s<N){l:List Int}{c:C}(hc:UC H F (rowU l) [c]):
  ∃H',Heap.st lim H ia (0+s*1) [c]=some H'/\CI lim N u1 b2 es v io ia gc (ls.set s l) H' F/\H'.next=H.next/\FLe H F H' F/\ ∀i,i≠ia->H'.get i=H.get i:=by
 obtain⟨cs,h1,h2,h3⟩:=h.hia
 refine⟨H.put ia (.cells 1 (cs.set s c)), ?_, ?_,rfl, ?_⟩
 ·unfold Heap.st
  simp only[h1]
  rw[if_pos ⟨h.lm,by simp;omega⟩]
  simp[splice]
 ·have m:FLe H F (H.put ia (.cells 1 (cs.set s c))) F:=⟨fun _ h=>h,fun i hi=>by
   have:i≠ia:=fun e=>h.fa (by rw[<-e];exact hi)
   simp[Heap.put,this]⟩
  refine⟨by rw[m.same io h.fo];exact h.hio,⟨cs.set s c,by simp[Heap.put],by simp[h2],fun k l' c' hk hk'=> ?_⟩,h.hgc.mono m,h.fo,h.fa,h.lt,h.lm,by simp[h.len],h.fl⟩
  rw[List.getElem?_set]at hk hk'
  by_cases e:s=k
  ·subst e
   simp only[iT,h.len,hs,h2]at hk hk'
   cases hk;cases hk'
   exact hc.mono m
  ·simp only[e,iF]at hk hk'
   exact(h3 k l' c' hk hk').mono m
 ·exact⟨⟨fun _ h=>h,fun i hi=>by
   have:i≠ia:=fun e=>h.fa (by rw[<-e];exact hi)
   simp[Heap.put,this]⟩,fun i hi=>by simp[Heap.put,hi]⟩
theorem CI.ptr(h:CI lim N u1 b2 es v io ia gc ls H F):H.ld io (0+157)=some (.slice ia 0 N)/\H.ld io 0=some gc:=by
 refine⟨ldX h.hio ?_,ldX h.hio rfl⟩
 unfold chC
 rw[List.getElem?_append_right (by simp),List.getElem?_append_right (by simp),List.getElem?_append_right (by simp)]
 simp
theorem J0E{s:Nat}(hs:s<N):C.elem 1 (.slice ia 0 N) (s:Int)=some (ia,0+s*1):=by
 simp[C.elem,hs]
theorem J1Y{M:YM}{x:Int}: ∀(d k:Nat),k+d=12->picks (enB es x) d k=[]->
  y74_1 M (rowU (stepsL es x 0)) (rowU (stepsL es x 1)) (rowU (stepsL es x 2)) (rowU (stepsL es x 3)) (rowU (stepsL es x 4)) (rowU (stepsL es x 5)) (rowU (stepsL es x 6)) (rowU (stepsL es x 7)) (rowU (stepsL es x 8)) (rowU (stepsL es x 9)) (rowU (stepsL es x 10)) (rowU (stepsL es x 11)) (k:Int) ⟨false,0,[]⟩=some (.sl ⟨false,0,[]⟩):=by
 intro d
 induction d with
 |zero=>
  intro k hk _
  rw[w0A]
  simp only[show¬((k:Int)<12) by omega,dF,bF,iF]
  rfl
 |succ d ih=>
  intro k hk hp
  have hk12:k<12:=by omega
  have hget:[rowU (stepsL es x 0),rowU (stepsL es x 1),rowU (stepsL es x 2),rowU (stepsL es x 3),rowU (stepsL es x 4),rowU (stepsL es x 5),rowU (stepsL es x 6),rowU (stepsL es x 7),rowU (stepsL es x 8),rowU (stepsL es x 9),rowU (stepsL es x 10),rowU (stepsL es x 11)][((k:Int)).toNat]? =some (rowU (stepsL es x (k:Int))):=by
   rw[iN]
   have:[rowU (stepsL es x 0),rowU (stepsL es x 1),rowU (stepsL es x 2),rowU (stepsL es x 3),rowU (stepsL es x 4),rowU (stepsL es x 5),rowU (stepsL es x 6),rowU (stepsL es x 7),rowU (stepsL es x 8),rowU (stepsL es x 9),rowU (stepsL es x 10),rowU (stepsL es x 11)]=(List.range 12).map fun a:Nat=>rowU (stepsL es x (a:Int)):=rfl
   rw[this]
   simp[hk12]
  simp only[picks]at hp
  obtain⟨h1,h2⟩:=List.append_eq_nil_iff.1 hp
  have h3:enB es x k=false:=by
   cases h:enB es x k with
   |false=>rfl
   |true=>rw[h]at h1;cases h1
  have h0:decide ((0:Int)<((stepsL es x (k:Int)).length:Int))=enB es x k:=by
   unfold enB
   cases stepsL es x (k:Int)with
   |nil=>rfl
   |cons y r=>simp
  rw[w0A]
  simp only[show((k:Int)<12) by omega,dY,iT,show(0:Int)<=(k:Int)/\(k:Int)<((12:Nat):Int)from⟨by omega,by omega⟩,and_self,hget,oS,len_rowU,h0,h3,bF,iF,Y0J,q0a (show k<=1000000000 by omega),ih (k+1) (by omega) h2]
theorem J1Z{M:YM}(hok: ∀e∈es,eOK (N:Int) e=true){s:Nat}(hs:s<N): ∃r,y74 M (openU N u1 b2 es) (s:Int)=some r/\r.toU=some (rowU (enabled es (s:Int))):=by
 by_cases h0:enabled es (s:Int)=[]
 ·obtain⟨v,v0,v1,v2,v3,v4,v5⟩:=q0f N u1 b2 es
  obtain⟨w,f,w1,w2,w3⟩:=Z0I hs hok
  have:=J1Y (M:=M) (es:=es) (x:=(s:Int)) 12 0 (by omega) h0
  rw[show((0:Nat):Int)=0 from rfl]at this
  refine⟨.sl ⟨false,0,[]⟩, ?_,by rw[h0];rfl⟩
  rw[J1p]
  simp only[v0,v5,w1,w2,oS,w3 0 (by omega),w3 1 (by omega),w3 2 (by omega),w3 3 (by omega),w3 4 (by omega),w3 5 (by omega),w3 6 (by omega),w3 7 (by omega),w3 8 (by omega),w3 9 (by omega),w3 10 (by omega),w3 11 (by omega)]
  exact this
 ·obtain⟨o,o1,o2⟩:=J1l (M:=M) (u1:=u1) (b2:=b2) hok hs
  refine⟨_,o1, ?_⟩
  show some o.fz=_
  have hb:o.b=true:=by
   cases hb:o.b with
   |true=>rfl
   |false=>have:=o2.b hb;rw[o2.es]at this;exact absurd (by simpa using this) h0
  rw[o2.fz,hb]
  unfold rowU
  cases he:enabled es (s:Int)with
  |nil=>exact absurd he h0
  |cons=>rfl
theorem z1r(hok: ∀e∈es,eOK (N:Int) e=true){s:Nat}(hs:s<N)(h:CI lim N u1 b2 es v io ia gc ls H F):
  ∃c H' F',f74 (MH lim) gc (s:Int) H=some (.c c,H')/\FrX none H F H' F'/\UC H' F' (rowU (enabled es (s:Int))) [c]:=by
 obtain⟨r,r1,r2⟩:=J1Z (M:=MM) (u1:=u1) (b2:=b2) hok hs
 obtain⟨v1,H1,F1,c1,c2,c3⟩:=z0V (lim:=lim) (f:=74) (us:=[openU N u1 b2 es,uI (s:Int)]) (vs:=[.c gc, .c (.int .i64 (s:Int))]) r1 r2 h.lt_next h.fl ⟨_,_,rfl,⟨rfl,h.hgc⟩,_,_,rfl,z0o _,rfl⟩
 obtain⟨c,rfl,c4⟩:=c3.one rfl
 exact⟨c,H1,F1,c1,c2,c4⟩
theorem J0F(ls:List (List Int)):(xsU ls).length=ls.length:=by simp[xsU]
theorem Q0k(h: ∀l∈ls,l.length<=12): ∀x∈xsU ls,x.2.length<=1000000:=fun x hx=>by
 obtain⟨l,hl,rfl⟩:=List.mem_map.1 hx
 have:=h l hl
 simp only;omega
theorem k0w(h: ∀l∈ls,l.length<=12){s:Nat}{r:List Int}(hr:r.length<=12): ∀l∈ls.set s r,l.length<=12:=fun l hl=>by
 rcases List.mem_or_eq_of_mem_set hl with h1 |h1
 ·exact h l h1
 ·rw[h1];exact hr
theorem w1R{H0:Heap}{F0:Nat->Prop}(A:FrX none H0 F0 H F)(hi:H0.next<=ia)(hn:H'.next=H.next)(hk: ∀i,i≠ia->H'.get i=H.get i):FrX none H0 F0 H' F:=
 ⟨by rw[hn];exact A.next,fun i h1 h2=>(hk i (by omega)).trans (A.keep i h1 h2),A.sub,A.new,fun i h=>by rw[hn];exact A.lt i h⟩
theorem X0l{s:Int}{a:Int}(h:a∈enabled es s):0<=a/\a<12:=by
 obtain⟨j,_,h2,rfl,_⟩:=mem_picks.1 h
 omega
theorem w1S(hN:N<=60)(he:es.length<=2000)(hok: ∀e∈es,eOK (N:Int) e=true){H0:Heap}{F0:Nat->Prop}(hia0:H0.next<=ia){x0 x34 x35:Int}{x1 x2 ac:C}{s:Nat}(hs:s<N){L:List (List Int)}(hL:L[s]? =some (enabled es (s:Int)))(hsh: ∀l∈L,l.length<=12):
  ∀(d k:Nat) (H:Heap) (F:Nat->Prop),k+d=(enabled es (s:Int)).length->CI lim N u1 b2 es v io ia gc L H F->FrX none H0 F0 H F->UC H F (rowU (enabled es (s:Int))) [ac]->
  ∃H' F',CI lim N u1 b2 es v io ia gc (tryL es N v s L ((enabled es (s:Int)).drop k)) H' F'/\FrX none H0 F0 H' F'/\
   f40_2 (MH lim) x0 x1 x2 (.ptr io 0) (s:Int) ac x34 x35 ac ((enabled es (s:Int)).length:Int) (k:Int) H=f40_1 (MH lim) x0 x1 x2 (.ptr io 0) x34 (IntKind.wrap .i64 (x35+1)) H':=by
 have hel:=j0v (es:=es) (s:Int)
 intro d
 induction d with
 |zero=>
  intro k H F hk h A hac
  rw[W0y,dL (by omega)]
  simp only[show¬((k:Int)<((enabled es (s:Int)).length:Int)) by omega,dF,bF,iF,tryL]
  exact⟨H,F,h,A,rfl⟩
 |succ d ih=>
  intro k H F hk h A hac
  have hlt:k<(enabled es (s:Int)).length:=by omega
  have ha12:=X0l (lM hlt)
  obtain⟨i,o,z,cs,e1,_,e3,e4,e5⟩:=UC.elem (b:= !(enabled es (s:Int)).isEmpty) (us:=(enabled es (s:Int)).map uI) hac (k:=k) (u:=uI (enabled es (s:Int))[k]) (by simp[hlt])
  rw[show U.size (uI (enabled es (s:Int))[k])=1 from rfl]at e1 e4 e5
  have l0:=ldX e3 (j0P (z0l e5))
  have P1:=FrX.allocF (H:=H) (F:=F) (.cells 1 [.int .i64 (enabled es (s:Int))[k]]) h.fl
  have h1:=h.keep P1
  have A1:=A.trans P1
  obtain⟨H9,g1,g2,g3,g4,g5⟩:=h1.store hs (l:=[(enabled es (s:Int))[k]]) (c:= .slice H.next 0 1) (.inr ⟨rfl,H.next,0,_,1,rfl, .inr rfl,alloc_new _ _,by simp,⟨[.int .i64 (enabled es (s:Int))[k]],[],by simp,rfl,⟨rfl,rfl⟩,rfl⟩⟩)
  have A2:FrX none H0 F0 H9 _:=w1R A1 hia0 g3 g5
  have hsh':=k0w hsh (s:=s) (r:=[(enabled es (s:Int))[k]]) (by simp)
  have hlen:(xsU (L.set s [(enabled es (s:Int))[k]])).length=N:=by rw[J0F,List.length_set];exact h.len
  have hat:atC (xsU (L.set s [(enabled es (s:Int))[k]])) s=[(enabled es (s:Int))[k]]:=by
   rw[k0V,lG,List.getElem?_set,if_pos rfl,if_pos (by rw[h.len];exact hs)]
   rfl
  obtain⟨ws,H10,F10,d1,d2,d3⟩:=Rz.callT (md:=md) (j0L (vext:=awExt 10) (yext:=yExt3) (prog:=progOf 10 prog true) (lim:=lim) k0x (J0c lim)) (f:=53) (us:=[chX N u1 b2 es (DD es N) v true (xsU (L.set s [(enabled es (s:Int))[k]])),uI (s:Int)]) (vs:=[.c (.ptr io 0), .c (.int .i64 (s:Int))])
   (K1U (M:=M3) (u1:=u1) (b2:=b2) (b3:=true) (v:=v) Z1H hN he hok hlen (Q0k hsh') hs (by rw[hat];intro q hq;simp only[mC,List.not_mem_nil,or_false]at hq;rw[hq];exact ha12)) (m1:= .va) (m2:= .va) (by kernel_rfl) g2.lt_next g2.flp ⟨_,_,rfl,⟨rfl,g2.uc⟩,_,_,rfl,z0o _,rfl⟩
  have d1':f53 (MH lim) (.ptr io 0) (s:Int) H9=some (.tuple ws,H10):=d1
  have h2:=g2.keep0 d2
  have A3:FrX none H0 F0 H10 (fun i=>F i\/i=H.next):=A2.trans ⟨d2.next,d2.keep,fun _ h=>h,fun _ h=> .inl h,fun i hi=>nL (g2.fl i hi) d2.next⟩
  obtain⟨w1,_,rfl,hw1,w2,_,rfl,hw2,rfl⟩:=d3
  have hw2':=hw2.bool
  subst hw2'
  obtain⟨fc,f0⟩: ∃(p:Int×Int×List Int),uF ((fault1 es N (xsU (L.set s [(enabled es (s:Int))[k]])) v s).map fun q=>((s:Int),q.1,q.2))= .st [uI p.1,uI p.2.1,rowU p.2.2]:=by
   cases fault1 es N (xsU (L.set s [(enabled es (s:Int))[k]])) v s with
   |none=>exact⟨(0,0,[]),rfl⟩
   |some q=>exact⟨((s:Int),q.1,q.2),rfl⟩
  rw[f0]at hw1
  have hptr1:=h.ptr
  have hptr2:=h2.ptr
  cases w1 with
  |c c=>exact absurd hw1.1 (by simp[U.isSt])
  |tuple _=>exact absurd hw1 id
  |agg ca=>
   obtain⟨us,eu,q⟩:=hw1
   cases eu
   obtain⟨y0,_,rfl,_,q0,y1,_,rfl,_,q1,y2,_,rfl,_,q2,rfl⟩:=q
   have z0:=z0l q0
   have z1:=z0l q1
   simp only[List.cons.injEq,and_true]at z0 z1
   subst z0 z1
   rw[W0y,q0c hlt]
   simp only[show((k:Int)<((enabled es (s:Int)).length:Int)) by omega,dY,iT,e1,oS,l0,C.asI,withP,hptr1.1,J0E hs,g1,d1',V.ext,List.getElem?_cons_zero,List.getElem?_cons_succ,V.asA,headC,List.drop_succ_cons,List.drop_zero,List.length_nil,V.asC,C.asB,tryL]
   cases hfa:fault1 es N (xsU (L.set s [(enabled es (s:Int))[k]])) v s with
   |none=>
    simp only[Option.isSome_none,Bool.not_false,iT]
    exact⟨H10,_,h2,A3,rfl⟩
   |some qq=>
    have hacm:UC H10 (fun i=>F i\/i=H.next) (rowU (enabled es (s:Int))) [ac]:=(hac.mono (P1.le0 h.fl)).mono (g4.trans ⟨fun _ h=>h,fun i hi=>d2.keep i (g2.fl i hi) (by simp)⟩)
    obtain⟨H25,k1,k2,k3,k4,k5⟩:=h2.store hs hacm
    have hback:(L.set s [(enabled es (s:Int))[k]]).set s (enabled es (s:Int))=L:=by
     rw[List.set_set]
     refine List.ext_getElem? fun j=> ?_
     rw[List.getElem?_set]
     by_cases hj:s=j
     ·subst hj
      rw[if_pos rfl,if_pos (by rw[h.len];exact hs),hL]
     ·rw[if_neg hj]
    rw[hback]at k2
    obtain⟨H',F',j1,j2,j3⟩:=ih (k+1) H25 _ (by omega) k2 (w1R A3 hia0 k3 k5) (hacm.mono k4)
    simp only[Option.isSome_some,Bool.not_true,bF,Bool.true_eq_false,iF,hptr2.1,oS,J0E hs,k1,q0a (show k<=1000000000 by omega),j3]
    exact⟨H',F',j1,j2,rfl⟩
end
end Go.Proofs.Ythjjbkiejkhjfaa.R
