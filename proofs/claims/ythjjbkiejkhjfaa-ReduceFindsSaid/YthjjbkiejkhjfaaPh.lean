/- - -/
import Derived.Test.YthjjbkiejkhjfaaPg
set_option linter.all false
namespace Go.Proofs.Ythjjbkiejkhjfaa.R
open Go Go.Proofs.Ythjjbkiejkhjfaa.Vm
section
variable{lim N:Nat}{u1:U}{b1 b2:Bool}{es:List E3}{v:Nat->Bool}{io ia:Nat}{gc:C}{ls:List (List Int)}{H H':Heap}{F F':Nat->Prop}{lab:List Int}
theorem Q0C{s:Nat}: ∀{r:List Int} {L:List (List Int)},(∀l∈L,l.length<=12)-> ∀l∈tryL es N v s L r,l.length<=12
 | [],L,h=>h
 |a::r,L,h=>by
  unfold tryL
  split
  ·exact k0w h (by simp)
  ·exact Q0C h
theorem w1j(hN:N<=60)(he:es.length<=2000)(hok: ∀e∈es,eOK (N:Int) e=true){H0:Heap}{F0:Nat->Prop}(hia0:H0.next<=ia){x1 x2:C}:
  ∀(d s:Nat) (ls:List (List Int)) (H:Heap) (F:Nat->Prop),s+d=N->CI lim N u1 b2 es v io ia gc ls H F->(∀l∈ls,l.length<=12)->FrX none H0 F0 H F->
  ∃H' F',CI lim N u1 b2 es v io ia gc (loop1 es N v d s ls) H' F'/\FrX none H0 F0 H' F'/\(∀l∈loop1 es N v d s ls,l.length<=12)/\
   f40_1 (MH lim) (N:Int) x1 x2 (.ptr io 0) (N:Int) (s:Int) H=f40_3 (MH lim) (.ptr io 0) (N:Int) 0 H':=by
 intro d
 induction d with
 |zero=>
  intro s ls H F hs h hsh A
  rw[W0x]
  simp only[show¬((s:Int)<(N:Int)) by omega,dF,bF,iF,loop1]
  exact⟨H,F,h,A,hsh,rfl⟩
 |succ d ih=>
  intro s ls H F hs h hsh A
  have hsN:s<N:=by omega
  obtain⟨c5,H4,F4,e1,e2,e3⟩:=z1r hok hsN h
  have h4:=h.keep e2
  have A4:=A.trans e2
  obtain⟨H10,g1,g2,g3,g4,g5⟩:=h4.store hsN e3
  have hel:=j0v (es:=es) (s:Int)
  have hsh':=k0w hsh (s:=s) hel
  have hL:(ls.set s (enabled es (s:Int)))[s]? =some (enabled es (s:Int)):=by
   rw[List.getElem?_set,if_pos rfl,if_pos (by rw[h.len];exact hsN)]
  obtain⟨H11,F11,j1,j2,j3⟩:=w1S (x0:=(N:Int)) (x1:=x1) (x2:=x2) (x34:=(N:Int)) (x35:=(s:Int)) hN he hok hia0 hsN hL hsh' _ 0 H10 F4 (Nat.zero_add _) g2 (w1R A4 hia0 g3 g5) (e3.mono g4)
  rw[List.drop_zero]at j1
  rw[show((0:Nat):Int)=0 from rfl,q0a (show s<=1000000000 by omega)]at j3
  obtain⟨H',F',k1,k2,k3,k4⟩:=ih (s+1) _ H11 F11 (by omega) j1 (Q0C hsh') j2
  have hlen:C.len c5=some (enabled es (s:Int)).length:=by
   have:=UC.lenC (b:= !(enabled es (s:Int)).isEmpty) (us:=(enabled es (s:Int)).map uI) e3
   simpa using this
  rw[W0x]
  simp only[show((s:Int)<(N:Int)) by omega,dY,iT,withP,h.ptr.2,oS,e1,V.asC,h4.ptr.1,J0E hsN,g1,hlen,j3,k4]
  exact⟨H',F',k1,k2,k3,rfl⟩
theorem w1k(hN:N<=60)(he:es.length<=2000)(hok: ∀e∈es,eOK (N:Int) e=true){H0:Heap}{F0:Nat->Prop}(hia0:H0.next<=ia):
  ∀(d s:Nat) (ls:List (List Int)) (H:Heap) (F:Nat->Prop),s+d=N->CI lim N u1 b2 es v io ia gc ls H F->(∀l∈ls,l.length<=12)->FrX none H0 F0 H F->
  ∃H' F',CI lim N u1 b2 es v io ia gc (loop2 es d s ls) H' F'/\FrX none H0 F0 H' F'/\
   f40_3 (MH lim) (.ptr io 0) (N:Int) (s:Int) H=some (.tuple [.c (.slice ia 0 N), .c (.int .i64 0)],H'):=by
 intro d
 induction d with
 |zero=>
  intro s ls H F hs h hsh A
  rw[W0z]
  simp only[show¬((s:Int)<(N:Int)) by omega,dF,bF,iF,loop2,withP,h.ptr.1,oS]
  exact⟨H,F,h,A,rfl⟩
 |succ d ih=>
  intro s ls H F hs h hsh A
  have hsN:s<N:=by omega
  obtain⟨r,hr⟩:=k0q (N:=N) hN hok (xs:=xsU ls) hsN
  obtain⟨v1,H1,F1,c1,c2,c3⟩:=K1K (lim:=lim) (f:=54) (us:=[chX N u1 b2 es (DD es N) v true (xsU ls),uI (s:Int)]) (vs:=[.c (.ptr io 0), .c (.int .i64 (s:Int))])
   (K1T (M:=M3) (u1:=u1) (b2:=b2) (b3:=true) (v:=v) Z1H hN he hok (by rw[J0F];exact h.len) (Q0k hsh) hsN hr) rfl h.lt_next h.flp ⟨_,_,rfl,⟨rfl,h.uc⟩,_,_,rfl,z0o _,rfl⟩
  obtain⟨cr,rfl,c4⟩:=c3.one rfl
  have c1':f54 (MH lim) (.ptr io 0) (s:Int) H=some (.c cr,H1):=c1
  have h1:=h.keep0 c2
  have A1:FrX none H0 F0 H1 F:=A.trans ⟨c2.next,c2.keep,fun _ h=>h,fun _ h=> .inl h,fun i hi=>nL (h.fl i hi) c2.next⟩
  rw[W0z]
  unfold loop2
  cases r with
  |nil=>
   have hnil:isNil .slice cr=some true:=by
    rcases c4 with⟨_,_,e⟩ |⟨e,_⟩
    ·have:cr= .nilSlice:=by simpa using e
     rw[this];rfl
    ·cases e
   obtain⟨H',F',k1,k2,k3⟩:=ih (s+1) ls H1 F (by omega) h1 hsh A1
   simp only[show((s:Int)<(N:Int)) by omega,dY,iT,c1',oS,V.asC,hnil,bne_self_eq_false,bF,iF,W0A,q0a (show s<=1000000000 by omega),k3,hr]
   exact⟨H',F',k1,k2,rfl⟩
  |cons y r=>
   have hnil:isNil .slice cr=some false:=W0M (l:=y::r) c4
   obtain⟨c11,H4,F4,e1,e2,e3⟩:=z1r hok hsN h1
   have h4:=h1.keep e2
   obtain⟨H13,g1,g2,g3,g4,g5⟩:=h4.store hsN e3
   obtain⟨H',F',k1,k2,k3⟩:=ih (s+1) _ H13 F4 (by omega) g2 (k0w hsh (j0v _)) (w1R (A1.trans e2) hia0 g3 g5)
   have hseen:seenC H4 io (0+157) .c (.c (.slice ia 0 N))=true:=by
    unfold seenC
    rw[h4.ptr.1]
    simp[K0.take,eqV,eqC]
   have hne: ¬(some (y::r)=some ([]:List Int)):=by simp
   simp only[show((s:Int)<(N:Int)) by omega,dY,iT,c1',oS,V.asC,hnil,Bool.false_bne,withP,h1.ptr.1,h1.ptr.2,e1,hseen,J0E hsN,g1,W0A,q0a (show s<=1000000000 by omega),k3,hr,hne,iF]
   exact⟨H',F',k1,k2,rfl⟩
def found(es:List E3)(N:Nat)(v:Nat->Bool):List (List Int):=loop2 es N 0 (loop1 es N v N 0 (List.replicate N []))
theorem K1x(hl:lim<=H.next)(hF: ∀i,F i->i<H.next){n:Int}{l:List Int}{x1 x2 cl:C}(hlen:l.length<=1000000)(hes:es.length<=1000000)(hlabl:lab.length<=1000000)
  (hg:UVs H F [.st [uI n,uIs b1 l,uEs b2 es]] [.agg [.int .i64 n,x1,x2]]) (hcl:UC H F (uIs true lab) [cl]):
  ∃H' F' cc,f40 (MH lim) n x1 x2 cl H=some (.tuple [.c cc, .c (.int .i64 (glErr n l es lab))],H')/\FrX none H F H' F'/\
   UC H' F' (if glErr n l es lab=0 then uLs true (xsU (found es n.toNat (visB lab es)))else .sl false []) [cc]:=by
 obtain⟨v1,H1,F1,c1,c2,c3⟩:=z0V (lim:=lim) (f:=48) (us:=[.st [uI n,uIs b1 l,uEs b2 es]]) (vs:=[.agg [.int .i64 n,x1,x2]]) (Z1K (M:=MM) hlen hes) rfl hl hF hg
 have hv1:=c3.int
 subst hv1
 have c1':f48 (MH lim) n x1 x2 H=some (.c (.int .i64 (gErr n l es)),H1):=c1
 have A1:=c2
 have m1:=c2.le0 hF
 rw[K1n]
 by_cases h0:gErr n l es=0
 rotate_left
 ·have hgl:glErr n l es lab=gErr n l es:=by unfold glErr;rw[if_neg h0]
  refine⟨H1,F1, .nilSlice, ?_,A1, ?_⟩
  ·simp only[c1',oS,V.asC,C.asI,iT,h0,dF,Bool.not_false,hgl]
  ·rw[hgl,if_neg h0];exact .inl ⟨rfl,rfl,rfl⟩
 have hgl:glErr n l es lab=lErr n lab:=by unfold glErr;rw[if_pos h0]
 obtain⟨v2,H2,F2,d1,d2,d3⟩:=z0V (lim:=lim) (f:=50) (us:=[.st [uI n,uIs b1 l,uEs b2 es],uIs true lab]) (vs:=[.agg [.int .i64 n,x1,x2], .c cl]) (Z1M (M:=MM) hlabl) rfl (nT hl A1.next) A1.lt
  (by
   obtain⟨w,_,e,hw,e'⟩:=hg
   cases e;cases e'
   exact⟨_,_,rfl,hw.mono m1,_,_,rfl,⟨rfl,hcl.mono m1⟩,rfl⟩)
 have hv2:=d3.int
 subst hv2
 have d1':f50 (MH lim) n x1 x2 cl H1=some (.c (.int .i64 (lErr n lab)),H2):=d1
 have A2:=A1.trans d2
 have m2:=A2.le0 hF
 by_cases h1:lErr n lab=0
 rotate_left
 ·refine⟨H2,F2, .nilSlice, ?_,A2, ?_⟩
  ·simp only[c1',d1',oS,V.asC,C.asI,iT,h0,h1,dY,dF,Bool.not_true,Bool.not_false,bF,iF,hgl]
  ·rw[hgl,if_neg h1];exact .inl ⟨rfl,rfl,rfl⟩
 obtain⟨N,rfl,hN,he,_,hok,hed⟩:=W0w h0
 have hlab:=W0P h1
 have hn2:(0:Int)<=(N:Int)/\(N:Int)<=2 ^ 36:=⟨by omega,by omega⟩
 have hrep:(List.replicate N [C.nilSlice]).flatten=List.replicate N C.nilSlice:=by
  rw[show [C.nilSlice]=List.replicate 1 C.nilSlice from rfl,List.flatten_replicate_replicate,Nat.mul_one]
 have P3:=FrX.alloc (H:=H2) (F:=F2) (.cells 1 (List.replicate N C.nilSlice)) A2.lt
 have A3:=A2.trans P3
 have m3:=A3.le0 hF
 obtain⟨H4,F4,io,gc,e1,e2,e3,e4,e5,e6,e7⟩:=K1k (lim:=lim) (cc:= .slice H2.next 0 N) (nT hl A3.next) A3.lt hN he hed (show lab.length=N by omega) (u1:=uIs b1 l) (b2:=b2) (b1:=true)
  (by obtain⟨w,_,e,hw,e'⟩:=hg;cases e;cases e';exact⟨_,_,rfl,hw.mono m3,rfl⟩) (hcl.mono m3)
 have A4:=A3.trans e2
 have hia:H4.get H2.next=some (.cells 1 (List.replicate N C.nilSlice)):=by rw[e2.keep _ (Nat.lt_succ_self _) (by simp)];exact alloc_new _ _
 have hF2: ¬F2 H2.next:=fun h=>absurd (A2.lt _ h) (Nat.lt_irrefl _)
 have hci:CI lim N (uIs b1 l) b2 es (visB lab es) io H2.next gc (List.replicate N []) H4 F4:=by
  refine⟨e6,⟨_,hia,by simp,fun k l' c a b=> ?_⟩,e7,e5,fun h=> ?_,nL (Nat.lt_succ_self _) e2.next,nT hl A2.next,by simp,A4.lt⟩
  ·have hl':=List.eq_of_mem_replicate (List.mem_of_getElem? a)
   have hc':=List.eq_of_mem_replicate (List.mem_of_getElem? b)
   subst hl' hc'
   exact .inl ⟨rfl,rfl,rfl⟩
  ·rcases e2.new _ h with h |h
   ·exact hF2 h
   ·exact absurd h (by simp[Heap.alloc])
 obtain⟨H5,F5,j1,j2,j3,j4⟩:=w1j (x1:=x1) (x2:=x2) hN he hok (show H.next<=H2.next from A2.next) N 0 _ H4 F4 (by omega) hci (fun q hq=>by rw[List.eq_of_mem_replicate hq];simp) A4
 obtain⟨H6,F6,k1,k2,k3⟩:=w1k hN he hok (show H.next<=H2.next from A2.next) N 0 _ H5 F5 (by omega) j1 j3 j2
 rw[show((0:Nat):Int)=0 from rfl]at j4 k3
 have A6:FrX none H F H6 (fun i=>F6 i\/i=H2.next):=k2.more (n0:=H2.next) (fun i h=> .inl h) (fun i h=>h.imp id fun e=>by rw[e];exact⟨nR _,k1.lt⟩) A2.next
 refine⟨H6,_, .slice H2.next 0 N, ?_,A6, ?_⟩
 ·simp only[c1',d1',oS,V.asC,C.asI,iT,h0,h1,dY,Bool.not_true,bF,iF,hgl,if_pos hn2,iN,hrep,e1,j4,k3]
 ·rw[hgl,if_pos h1,iN]
  obtain⟨cs,q1,q2,q3⟩:=k1.hia
  have hfl:(found es N (visB lab es)).length=N:=k1.len
  refine .inr ⟨rfl,H2.next,0,cs,1,by simp[xsU,hfl], .inr rfl,q1,by simp[xsU,hfl,q2], ?_⟩
  rw[List.drop_zero,List.take_of_length_le (by simp[xsU,hfl,q2])]
  refine J0V (by simp[xsU,hfl,q2]) fun k u c hu hc=> ?_
  simp only[xsU,List.map_map,List.getElem?_map]at hu
  obtain⟨l',hl',rfl⟩:=oM.1 hu
  exact(q3 k l' c hl' hc).mono ⟨fun _ h=> .inl h,fun _ _=>rfl⟩
end
end Go.Proofs.Ythjjbkiejkhjfaa.R
