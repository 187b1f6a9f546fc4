/- - -/
import Derived.Test.YtglkhoamnmiolaaE3
set_option linter.all false
namespace Go.Proofs.Ytglkhoamnmiolaa.Vm
open Go
section
variable{b0:Nat}{F:Nat->Prop}{κ:Nat->C}{z:Z}{e:Env}{H:Heap}
theorem UVs.get: ∀{us:List U} {vs:List V},UVs H F us vs-> ∀{k:Nat} {u:U},us[k]? =some u-> ∃v,vs[k]? =some v/\UV H F u v
 | [],vs,h,k,u,hk=>by simp at hk
 |u0::us,vs,⟨v,vs',h1,h2,h3⟩,0,u,hk=>by simp at hk;subst hk;exact⟨v,by rw[h1];rfl,h2⟩
 |u0::us,vs,⟨v,vs',h1,h2,h3⟩,k+1,u,hk=>by
  simp at hk
  obtain⟨y,hy,h4⟩:=UVs.get h3 hk
  exact⟨y,by rw[h1];simpa using hy,h4⟩
theorem UVs.append: ∀{us ws:List U} {vs xs:List V},UVs H F us vs->UVs H F ws xs->UVs H F (us++ws) (vs++xs)
 | [],ws,vs,xs,h,h2=>by rw[show vs=[]from h];exact h2
 |u::us,ws,vs,xs,⟨v,vs',h1,h2,h3⟩,h4=>by rw[h1];exact⟨v,vs'++xs,rfl,h2,UVs.append h3 h4⟩
theorem UCs.uvs: ∀{us:List U} {xs:List C},UCs H F us xs->UVs H F us (xs.map .c)
 | [],xs,h=>by rw[show xs=[]from h];rfl
 |u::us,xs,⟨c,cs,h1,h2,h3,h4⟩=>by rw[h1];exact⟨.c c,cs.map .c,rfl,⟨h2,h3⟩,UCs.uvs h4⟩
theorem k0H{x:X}{u:U}(hx: ∀p,x≠ .t p)(h:yl z x=some u): ∃v,ev e x=some v/\UV H F u v:=by
 cases x with
 |t p=>exact absurd rfl (hx p)
 |f g=>cases h;exact⟨_,rfl,rfl,[],[],rfl,rfl,rfl⟩
 |c v=>
  cases v with
  |c x=>obtain⟨h1,h2⟩:=Q0a (H:=H) (F:=F) h;exact⟨_,rfl,h1,h2⟩
  |agg cs=>
   simp only[yl,oM]at h
   obtain⟨us,hus,rfl⟩:=h
   exact⟨.agg cs,rfl,us,rfl,z0m hus⟩
  |tuple vs=>cases h
theorem SR.yl_st(R:SR b0 F κ z e H){x:X}{us:List U}(hx: ∀p cs,x= .t p->z.s p≠ .agg cs)(h:Vm.yl z x=some (.st us)): ∃v,ev e x=some v/\UV H F (.st us) v:=by
 cases x with
 |f g=>exact k0H (by simp) h
 |c v=>exact k0H (by simp) h
 |t p=>
  have hs:=R.sl p
  simp only[Vm.yl]at h
  split at h
  ·rename_i u hp;rw[hp]at hs;cases h;obtain⟨v,h1,h2⟩:=hs;exact⟨v,by simp[ev,h1],h2⟩
  ·rename_i cs hp;exact absurd hp (hx p cs rfl)
  ·cases(R.lk h).2.1
  ·split at h<;>cases h
  ·split at h<;>cases h
  ·cases h
theorem SR.yl_oaddr(R:SR b0 F κ z e H){p k c:Nat}{u:U}(hp:z.s p= .oaddr k c)(h:Vm.yl z (.t p)=some u): ∃v,ev e (.t p)=some v/\UV H F u v:=by
 have hs:=R.sl p
 simp only[Vm.yl,hp]at h
 rw[hp]at hs
 have hob:=R.ob k
 split at h
 ·rename_i v o hk
  cases h
  rw[hk]at hob
  obtain⟨i0,g0,ht⟩:=hs.resolve_left (by rw[hk];simp[Ob.isNone])
  obtain⟨i,q,zz,cs,n,g1,g2,g3,g4,g5⟩:=hob.2
  rw[g0]at g1
  simp only[List.cons.injEq,C.ptr.injEq,and_true]at g1
  obtain⟨rfl,g1⟩:=g1
  exact⟨.c (.ptr i0 c),by simp[ev,ht],rfl,i0,q,zz,cs,n,by rw[show q+(o+c)=c by omega],g2,g3,g4,g5⟩
 ·cases h
theorem SR.yfs: ∀{xs:List X} {F:Nat->Prop} {z z':Z} {us:List U},SR b0 F κ z e H->Vm.yfs z xs=some (us,z')-> ∃vs F',evs e xs=some vs/\Fzd b0 κ e H F z F' z'/\UVs H F' us vs
 | [],F,z,z',us,R,h=>by cases h;exact⟨[],F,rfl, .refl R,rfl⟩
 |x::xs,F,z,z',us,R,h=>by
  simp only[Vm.yfs]at h
  obtain⟨⟨u,z1⟩,hu,h⟩:=oB.1 h
  obtain⟨⟨us',z2⟩,hus,h⟩:=oB.1 h
  cases h
  obtain⟨v,F1,h1,h2,h3⟩:=R.yf hu
  obtain⟨vs,F2,g1,g2,g3⟩:=SR.yfs h2.sr hus
  exact⟨v::vs,F2,by simp only[evs,h1,g1,oS],h2.trans g2,v,vs,rfl,h3.mono g2.le,g3⟩
theorem SR.yls(R:SR b0 F κ z e H): ∀{xs:List X} {us:List U},Vm.yls z xs=some us-> ∃vs,evs e xs=some vs/\UVs H (FO F z.o κ) us vs
 | [],us,h=>by cases h;exact⟨[],rfl,rfl⟩
 |x::xs,us,h=>by
  simp only[Vm.yls]at h
  obtain⟨u,hu,h⟩:=oB.1 h
  obtain⟨us',hus,h⟩:=oB.1 h
  cases h
  obtain⟨v,h1,h3⟩:=R.yl hu
  obtain⟨vs,g1,g3⟩:=SR.yls R hus
  exact⟨v::vs,by simp only[evs,h1,g1,oS],v,vs,rfl,h3,g3⟩
theorem X0z{A:Type}: ∀{us:List U} {vs:List V} {xs:List X} {K:List U->Option A} {r:A},UVs H F us vs->evs e xs=some vs->onesK us K=some r-> ∃cs,K us=some r/\evCs e xs=some cs/\UCs H F us cs
 | [],vs,xs,K,r,hv,he,h=>by
  cases xs with
  |nil=>exact⟨[],h,rfl,rfl⟩
  |cons x xs=>
   rw[show vs=[]from hv]at he
   simp only[evs]at he
   obtain⟨v,_,he⟩:=oB.1 he
   obtain⟨w,_,he⟩:=oB.1 he
   cases he
 |u::us,vs,xs,K,r,⟨v,vs',h1,h2,h3⟩,he,h=>by
  simp only[onesK]at h
  obtain⟨w,hw,h9⟩:=oB.1 h
  clear h
  have hwu:w=u/\u.isSt=false:=by cases u<;>simp[U.one]at hw<;>simp[<-hw,U.isSt]
  obtain⟨rfl,hs⟩:=hwu
  rw[h1]at he
  cases xs with
  |nil=>cases he
  |cons x xs=>
   simp only[evs]at he
   obtain⟨v0,hv0,he⟩:=oB.1 he
   obtain⟨vs0,hvs0,he⟩:=oB.1 he
   cases he
   obtain⟨cs,g1,g2,g3⟩:=X0z h3 hvs0 h9
   cases v with
   |tuple vs=>exact h2.elim
   |agg xs=>obtain⟨us',k1,_⟩:=h2;rw[k1]at hs;cases hs
   |c c=>exact⟨c::cs,g1,by simp only[evCs,evC,hv0,V.asC,g2,oS],c,cs,rfl,hs,h2.2,g3⟩
theorem X0A{sz:Nat}{es es':List U}{l:Int}{h:Option Int}(hs:subU sz es l h=some es'):0<=l/\l<=h.getD es.length/\h.getD es.length<=es.length/\es'=(es.drop l.toNat).take (h.getD es.length - l).toNat/\es'.length=(h.getD es.length - l).toNat/\ ∀v∈es,v.size=sz:=by
 unfold subU at hs
 split at hs
 ·rename_i hh
  obtain⟨h1,h2,h3,h4⟩:=hh
  cases hs
  refine⟨h1,h2,h3,rfl, ?_,fun v hv=>by have:=List.all_eq_true.1 h4 v hv;simpa using this⟩
  simp only[List.length_take,List.length_drop];omega
 ·cases hs
end
section
variable{lim:Nat}{vcall:CallT}{md:FuncId->List RM}{ycall:YCallT}{b0:Nat}{F:Nat->Prop}{κ:Nat->C}{z:Z}{e:Env}{H:Heap}{A:Type}{K:Y->Z->Option A}{r:A}
theorem j1P(R:SR b0 F κ z e H){o:Nat}{a:X}(h:evalY md ycall z (.fld o a) K=some r): ∃y z',K y z'=some r/\Out lim vcall b0 F κ z e H (.fld o a) y z':=
 Q0K R (fun K2=>by simp only[evalOp]) h
theorem Y0p(R:SR b0 F κ z e H){n sz:Nat}{a i:X}(h:evalY md ycall z (.idxA n sz a i) K=some r): ∃y z',K y z'=some r/\Out lim vcall b0 F κ z e H (.idxA n sz a i) y z':=by
 simp only[evalY]at h
 obtain⟨m,hm,h⟩:=oB.1 h
 obtain⟨ci,i1,i2⟩:=R.ylIx hm
 split at h
 ·rename_i hh
  exact Q0K R (fun K2=>by simp only[evalOp,i1,i2,oS,if_pos hh]) h
 ·cases h
theorem Y0q(R:SR b0 F κ z e H){o:Nat}{x:X}(h:evalY md ycall z (.fldC o x) K=some r): ∃y z',K y z'=some r/\Out lim vcall b0 F κ z e H (.fldC o x) y z':=by
 have via:(∀p cs,x= .t p->z.s p≠ .agg cs)->((yl z x).bind fun u=>u.asCs.bind fun cs=>(cs[o]?).bind fun v=>K (.val v) z)=some r-> ∃y z',K y z'=some r/\Out lim vcall b0 F κ z e H (.fldC o x) y z':=by
  intro hx h
  obtain⟨u,hu,h⟩:=oB.1 h
  obtain⟨cs,hcs,h⟩:=oB.1 h
  obtain⟨w,hw,h9⟩:=oB.1 h
  clear h
  cases u<;>simp[U.asCs]at hcs
  subst hcs
  obtain⟨v,h1,h2⟩:=R.yl_st hx hu
  cases v with
  |c c=>cases h2.1
  |tuple vs=>exact h2.elim
  |agg xs=>
   obtain⟨us,k1,k2⟩:=h2
   cases k1
   obtain⟨c,g1,g2,g3⟩:=k2.get hw
   exact⟨_,z,h9, .val R (v:= .c c) (fun K2=>by simp only[evalOp,h1,V.cell,g1,oS]) ⟨g2,g3⟩⟩
 cases x with
 |c v=>exact via (by simp) h
 |f g=>exact via (by simp) h
 |t p=>
  simp only[evalY]at h
  split at h
  ·rename_i cs hp
   have hs:=R.sl p
   rw[hp]at hs
   obtain⟨xs,h1,h2⟩:=hs
   exact Q0c R h2 (fun k k1 k2 d hd hr=>R.slotRefs hp k1 k2 ⟨d,hd,hr⟩) (fun K2 x hx=>by simp only[evalOp,ev,h1,V.cell,hx,oS,K0.take]) h
  ·rename_i hn
   exact via (fun q cs hq hc=>by cases hq;exact hn cs hc) h
theorem Y0r(R:SR b0 F κ z e H){o n:Nat}{x:X}(h:evalY md ycall z (.fldA o n x) K=some r): ∃y z',K y z'=some r/\Out lim vcall b0 F κ z e H (.fldA o n x) y z':=by
 simp only[evalY]at h
 obtain⟨⟨u,z'⟩,hu,h⟩:=oB.1 h
 obtain⟨w,hw,h⟩:=oB.1 h
 obtain⟨v,F',h1,h2,h3⟩:=R.yf hu
 cases v with
 |c c=>
  obtain⟨_,us,g1,_⟩:=k0G h3.2 hw
  have h30:=h3.1
  cases u<;>simp[U.part]at hw;cases h30
 |tuple vs=>exact h3.elim
 |agg xs=>
  obtain⟨us,rfl,g2⟩:=h3
  obtain⟨k1,ws,rfl,k3⟩:=k0G (v:= .st us) g2 hw
  exact⟨_,z',h, .after R h2 (.val h2.sr (v:= .agg _) (fun K2=>by simp only[evalOp,h1,V.part,if_pos k1,oS]) ⟨ws,rfl,k3⟩)⟩
theorem K0t(R:SR b0 F κ z e H){n sz:Nat}{x i:X}(h:evalY md ycall z (.idxVA n sz x i) K=some r): ∃y z',K y z'=some r/\Out lim vcall b0 F κ z e H (.idxVA n sz x i) y z':=by
 simp only[evalY]at h
 obtain⟨⟨u,z'⟩,hu,h⟩:=oB.1 h
 obtain⟨m,hm,h⟩:=oB.1 h
 obtain⟨v,F',h1,h2,h3⟩:=R.yf hu
 obtain⟨ci,i1,i2⟩:=h2.sr.ylIx hm
 split at h
 ·rename_i hh
  obtain⟨w,hw,h⟩:=oB.1 h
  cases v with
  |c c=>
   have h30:=h3.1
   cases u<;>simp[U.part]at hw;cases h30
  |tuple vs=>exact h3.elim
  |agg xs=>
   obtain⟨us,rfl,g2⟩:=h3
   obtain⟨k1,ws,rfl,k3⟩:=k0G (v:= .st us) g2 hw
   exact⟨_,z',h, .after R h2 (.val h2.sr (v:= .agg _) (fun K2=>by simp only[evalOp,h1,i1,i2,if_pos hh,V.part,if_pos k1,oS]) ⟨ws,rfl,k3⟩)⟩
 ·cases h
theorem K0u(R:SR b0 F κ z e H){n:Nat}{kd:K0}{x i:X}(h:evalY md ycall z (.idxVC n kd x i) K=some r): ∃y z',K y z'=some r/\Out lim vcall b0 F κ z e H (.idxVC n kd x i) y z':=by
 simp only[evalY]at h
 obtain⟨⟨u,z'⟩,hu,h⟩:=oB.1 h
 obtain⟨m,hm,h⟩:=oB.1 h
 obtain⟨v,F',h1,h2,h3⟩:=R.yf hu
 obtain⟨ci,i1,i2⟩:=h2.sr.ylIx hm
 split at h
 ·rename_i hh
  obtain⟨cs,hcs,h⟩:=oB.1 h
  obtain⟨w,hw,h9⟩:=oB.1 h
  clear h
  cases u<;>simp[U.asCs]at hcs
  subst hcs
  cases v with
  |c c=>cases h3.1
  |tuple vs=>exact h3.elim
  |agg xs=>
   obtain⟨us,k1,k2⟩:=h3
   cases k1
   obtain⟨c,g1,g2,g3⟩:=k2.get hw
   obtain⟨w',c',j1,j2,j3,j4⟩:=z0n g2 g3 h9
   exact⟨_,z',j1, .after R h2 (.val h2.sr (v:= .c c') (fun K2=>by simp only[evalOp,h1,i1,i2,if_pos hh,V.cell,g1,j2,oS]) ⟨j3,j4⟩)⟩
 ·cases h
theorem j1Q(R:SR b0 F κ z e H){kd:KD}{x:X}{i:Nat}(h:evalY md ycall z (.ext kd x i) K=some r): ∃y z',K y z'=some r/\Out lim vcall b0 F κ z e H (.ext kd x i) y z':=by
 simp only[evalY]at h
 split at h
 ·rename_i p
  have hs:=R.sl p
  split at h
  ·rename_i us hp
   rw[hp]at hs
   obtain⟨vs,h1,h2⟩:=hs
   obtain⟨u,hu,h⟩:=oB.1 h
   obtain⟨v,g1,g2⟩:=h2.get hu
   obtain⟨w,w',k1,k2,k3⟩:=w0a g2 h
   exact⟨_,z,k1, .val R (fun K2=>by simp only[evalOp,ev,h1,V.ext,g1,k2,oS]) k3⟩
  ·cases h
 ·cases h
theorem j1R(R:SR b0 F κ z e H){t:TypeId}{x:X}(h:evalY md ycall z (.mkI t x) K=some r): ∃y z',K y z'=some r/\Out lim vcall b0 F κ z e H (.mkI t x) y z':=by
 simp only[evalY]at h
 obtain⟨⟨u,z'⟩,hu,h⟩:=oB.1 h
 obtain⟨v,F',h1,h2,h3⟩:=R.yf hu
 split at h
 ·rename_i cs hcs
  simp only at hcs
  subst hcs
  cases v with
  |c c=>cases h3.1
  |tuple vs=>exact h3.elim
  |agg xs=>
   obtain⟨us,k1,k2⟩:=h3
   cases k1
   exact⟨_,z',h, .after R h2 (.val h2.sr (v:= .c (.iface t true xs)) (fun K2=>by simp only[evalOp,h1,oS]) ⟨rfl,xs,rfl,k2⟩)⟩
 ·rename_i hn
  simp only at hn h
  cases v with
  |agg xs=>obtain⟨us,k1,k2⟩:=h3;exact absurd k1 (hn us)
  |tuple vs=>exact h3.elim
  |c c=>exact⟨_,z',h, .after R h2 (.val h2.sr (v:= .c (.iface t false [c])) (fun K2=>by simp only[evalOp,h1,oS]) ⟨rfl,[c],rfl,c,[],rfl,h3.1,h3.2,rfl⟩)⟩
theorem j1S(R:SR b0 F κ z e H){f:FuncId}{cap:List X}(h:evalY md ycall z (.mkF f cap) K=some r): ∃y z',K y z'=some r/\Out lim vcall b0 F κ z e H (.mkF f cap) y z':=by
 simp only[evalY]at h
 obtain⟨⟨us,z'⟩,hu,h⟩:=oB.1 h
 obtain⟨vs,F',h1,h2,h3⟩:=R.yfs hu
 obtain⟨cs,g1,g2,g3⟩:=X0z h3 h1 h
 exact⟨_,z',g1, .after R h2 (.val h2.sr (v:= .c (.func f [] cs)) (fun K2=>by simp only[evalOp,g2,oS]) ⟨rfl,[],cs,rfl,rfl,g3⟩)⟩
theorem X0B{i sz:Nat}{cs:List C}(hg:H.get i=some (.cells sz cs)):H.szBad i sz=false:=by simp[Heap.szBad,hg]
theorem j1T(R:SR b0 F κ z e H){sz:Nat}{x:X}{lo hi:Option X}(h:evalY md ycall z (.sub sz x lo hi) K=some r): ∃y z',K y z'=some r/\Out lim vcall b0 F κ z e H (.sub sz x lo hi) y z':=by
 simp only[evalY]at h
 obtain⟨l,hl,h⟩:=oB.1 h
 obtain⟨hh,hhi,h⟩:=oB.1 h
 rcases R.ysl h with⟨k,s,h1,h2,h3⟩ |⟨u,v,h1,h2,h3⟩
 ·split at h1
  ·rename_i hc
   obtain⟨rfl,hb⟩:=hc
   obtain⟨es,hes,h1⟩:=oB.1 h1
   obtain⟨g1,g2,g3,g4,g5,g6⟩:=X0A hes
   have hob:=R.ob k
   rw[h2]at hob
   rcases hob with⟨k1,_⟩ |⟨_,i,p,cs,k1,k2,k3,k4,k5,k6⟩
   ·rw[hb]at k1;cases k1
   ·refine⟨_,z,h1,F,κ, .val (.c (.slice i (p+l.toNat*s.sz) es.length)),H,fun K2=> ?_,R, ?_, .refl _ _ _ _,nR _,rfl,fun j j1 j2 j3=> ?_,(fun _ h=>by cases h),fun _ _ h=> .inl h,fun _ _=> .inl rfl⟩
    ·simp only[evalOp,h3,k1,R.ylLo hl,R.ylHi hhi,oS,Heap.sub,X0B k4,and_false,iF,bF]
     rw[if_pos ⟨g1,g2,g3⟩,g5];rfl
    ·simp only[YR,h2];exact⟨hb,i,p,_,k1,rfl,by rw[g5];omega⟩
    ·have:k=j:=j3
     rcases R.used (k:=k) (by rw[h2];simp)with h |h<;>omega
  ·cases h1
 ·obtain⟨w,hw0,h9⟩:=oB.1 h1
  clear h1
  simp only[U.sub]at hw0
  obtain⟨q,hq,hw⟩:=oB.1 hw0
  clear hw0
  cases u<;>simp[U.asL]at hq
  subst hq
  rename_i b es
  simp only[oM]at hw
  obtain⟨es',hes,rfl⟩:=hw
  obtain⟨g1,g2,g3,g4,g5,g6⟩:=X0A hes
  cases v with
  |tuple vs=>exact h3.elim
  |agg xs=>obtain⟨us,h,_⟩:=h3;cases h
  |c c=>
   rcases h3.2 with⟨k1,k2,k3⟩ |⟨k1,j,o,cs,z0,k3,k4,k5,k6,k7⟩
   ·simp at k3;subst k3;subst k2;subst k1
    simp only[List.length_nil]at g2 g3 g5
    have e2:hh.getD 0=0:=by have:hh.getD ((0:Nat):Int)=hh.getD 0:=rfl;omega
    have e3:es'=[]:=by rw[g4];simp
    subst e3
    have e1:l=0:=by have:hh.getD ((0:Nat):Int)=hh.getD 0:=rfl;omega
    exact⟨_,z,h9, .val R (v:= .c .nilSlice) (fun K2=>by simp only[evalOp,evC,h2,V.asC,R.ylLo hl,R.ylHi hhi,oS,Heap.sub];rw[if_pos ⟨e1,e2⟩];rfl) ⟨rfl, .inl ⟨rfl,rfl,rfl⟩⟩⟩
   ·simp at k3;subst k3;subst k1
    have hsub:H.sub lim sz (.slice j o es.length) l hh=some (.slice j (o+l.toNat*sz) es'.length):=by
     simp only[Heap.sub]
     rw[if_neg,if_pos ⟨g1,g2,g3⟩,g5]
     rintro⟨_,j1,_,j3⟩
     obtain⟨v0,hv0⟩: ∃v0,v0∈es:=by cases es with
      |nil=>simp at j1
      |cons a b=>exact⟨a,by simp⟩
     have:=k7.sizes v0 hv0
     rw[g6 v0 hv0]at this
     subst this
     rw[X0B k5]at j3;cases j3
    refine⟨_,z,h9, .val R (v:= .c (.slice j (o+l.toNat*sz) es'.length)) (fun K2=>by simp only[evalOp,evC,h2,V.asC,R.ylLo hl,R.ylHi hhi,oS,hsub]) ⟨rfl, .inr ⟨rfl,j,o+l.toNat*sz,cs,z0,rfl,k4,k5, ?_, ?_⟩⟩⟩
    ·have hcase:l.toNat*sz=l.toNat*z0:=by
      cases es with
      |nil=>
           have:l.toNat=0:=by simp at g2 g3;omega
           rw[this,Nat.zero_mul,Nat.zero_mul]
      |cons a b=>rw[<-g6 a (by simp),k7.sizes a (by simp)]
     have h8:(l.toNat+es'.length)*z0<=es.length*z0:=Nat.mul_le_mul_right _ (by omega)
     rw[Nat.add_mul]at h8
     omega
    ·have hcase:l.toNat*sz=l.toNat*z0:=by
      cases es with
      |nil=>
           have:l.toNat=0:=by simp at g2 g3;omega
           rw[this,Nat.zero_mul,Nat.zero_mul]
      |cons a b=>rw[<-g6 a (by simp),k7.sizes a (by simp)]
     have h8:(l.toNat+es'.length)*z0<=es.length*z0:=Nat.mul_le_mul_right _ (by omega)
     rw[Nat.add_mul]at h8
     have e1:((((cs.drop o).take (es.length*z0)).drop (l.toNat*z0)).take (es'.length*z0))=(cs.drop (o+l.toNat*sz)).take (es'.length*z0):=by
      rw[List.drop_take,List.take_take,List.drop_drop,hcase]
      congr 1;omega
     have:=(k7.drop l.toNat).take es'.length
     rw[e1]at this
     rw[g5]at this
     rw[<-g4]at this
     rw[g5];exact this
theorem j1U(R:SR b0 F κ z e H){x:X}(h:evalY md ycall z (.mov x) K=some r)(hn:x≠ .c (.c .nilSlice)): ∃y z',K y z'=some r/\Out lim vcall b0 F κ z e H (.mov x) y z':=by
 have const:(∀p,x≠ .t p)->((yl z x).bind fun u=>K (.val u) z)=some r-> ∃y z',K y z'=some r/\Out lim vcall b0 F κ z e H (.mov x) y z':=by
  intro hx h
  obtain⟨u,hu,h⟩:=oB.1 h
  obtain⟨v,h1,h2⟩:=k0H (e:=e) (H:=H) (F:=F) hx hu
  exact⟨_,z,h, .val R (fun K2=>by simp only[evalOp,h1,oS]) h2⟩
 cases x with
 |f g=>exact const (by simp) h
 |c v=>
  have h':((yl z (.c v)).bind fun u=>K (.val u) z)=some r:=by
   cases v with
   |c x=>cases x<;>first |exact h |exact absurd rfl hn
   |_=>exact h
  exact const (by simp) h'
 |t p=>
  have hs:=R.sl p
  have slot: ∀{y:Y} {v:V},z.s p=y->e.get p= .val v->(∀cs,y≠ .loc cs)->K y z=some r->YR H F κ z.o z.s y (e.get p)-> ∃y z',K y z'=some r/\Out lim vcall b0 F κ z e H (.mov (.t p)) y z':=by
   intro y v hp hv hl h hy
   exact⟨y,z,h,F,κ, .val v,H,fun K2=>by simp only[evalOp,ev,hv,oS],R,by rw[<-hv];exact hy, .refl _ _ _ _,nR _,rfl,fun k k1 k2=>R.slotRefs hp k1 k2,hl,fun _ _ h=> .inl h,fun _ _=> .inl rfl⟩
  simp only[evalY]at h
  split at h
  ·rename_i u hp
   rw[hp]at hs
   obtain⟨v,h1,h2⟩:=hs
   exact slot hp h1 (by simp) h ⟨v,h1,h2⟩
  ·rename_i us hp
   rw[hp]at hs
   obtain⟨v,h1,h2⟩:=hs
   exact slot hp h1 (by simp) h ⟨v,h1,h2⟩
  ·rename_i k hp
   rw[hp]at hs
   split at h
   ·cases h
   ·rename_i hk
    have ht:=hs.resolve_left hk
    exact slot hp ht (by simp) h (.inr ht)
  ·rename_i k lo n hp
   rw[hp]at hs
   split at h
   ·rename_i s hk
    have hs':=hs
    simp only[YR,hk]at hs'
    obtain⟨hb,i,q,m,g1,g2,g3⟩:=hs'
    exact slot hp g2 (by simp) h hs
   ·cases h
  ·rename_i cs hp
   rw[hp]at hs
   obtain⟨v,h1,h2⟩:=hs
   exact slot hp h1 (by simp) h ⟨v,h1,h2⟩
  ·rename_i n1 n2 n3 n4 n5
   obtain⟨u,hu,h⟩:=oB.1 h
   have: ∃v,ev e (.t p)=some v/\UV H F u v:=by
    cases hp:z.s p with
    |val u=>exact absurd hp (n1 u)
    |tup u=>exact absurd hp (n2 u)
    |h u=>exact absurd hp (n3 u)
    |w k lo n=>exact absurd hp (n4 k lo n)
    |agg cs=>exact absurd hp (n5 cs)
    |oaddr k c=>exact R.yl_oaddr hp hu
    |_=>simp[yl,hp]at hu
   obtain⟨v,h1,h2⟩:=this
   exact⟨_,z,h, .val R (fun K2=>by simp only[evalOp,h1,oS]) h2⟩
end
structure Pre (b0:Nat) (F:Nat->Prop) (κ:Nat->C) (z:Z) (e:Env) (H:Heap) (F':Nat->Prop) (κ':Nat->C) (z':Z):Prop where
 sr:SR b0 F' κ' z' e H
 le:FLe H F H F'
 from_: ∀i,F' i->F i\/b0<=i
 n:z.n<=z'.n
 s:z'.s=z.s
 own: ∀k i,Owns z'.o κ' k i->Owns z.o κ k i
section
variable{b0:Nat}{F F' F'':Nat->Prop}{κ κ' κ'':Nat->C}{z z' z'':Z}{e:Env}{H H':Heap}
theorem Fzd.pre(h:Fzd b0 κ e H F z F' z')(R:SR b0 F κ z e H):Pre b0 F κ z e H F' κ z':=
 ⟨h.sr,h.le,(h.adv R True).from_,by rw[h.n];exact nR _,h.s,h.own⟩
theorem Pre.refl(R:SR b0 F κ z e H):Pre b0 F κ z e H F κ z:=⟨R, .refl _ _,fun _ h=> .inl h,nR _,rfl,fun _ _ h=>h⟩
theorem Pre.trans(h:Pre b0 F κ z e H F' κ' z')(k:Pre b0 F' κ' z' e H F'' κ'' z''):Pre b0 F κ z e H F'' κ'' z'':=
 ⟨k.sr,h.le.trans k.le,fun i hi=>(k.from_ i hi).elim (h.from_ i) .inr,nT h.n k.n,k.s.trans h.s,fun j i hj=>h.own j i (k.own j i hj)⟩
theorem UV.cells{u:U}{v:V}(h:UV H F u v): ∃xs,v.cells=some xs/\UC H F u xs:=by
 cases v with
 |c c=>exact⟨[c],rfl,h.2⟩
 |agg xs=>obtain⟨us,rfl,h2⟩:=h;exact⟨xs,rfl,h2⟩
 |tuple vs=>exact h.elim
theorem z0Q{H:Heap}(o:Obj){i:Nat}(h:i<H.next):(H.alloc o).get i=H.get i:=by simp[Heap.alloc,Nat.ne_of_lt h]
theorem j0g(H:Heap)(o:Obj):(H.alloc o).get H.next=some o:=by simp[Heap.alloc]
theorem OcsR.set: ∀{cs:List Oc} {xs:List C} {o:Nat->Ob} {k:Nat} {c:Oc} {x:C},OcsR H F κ o cs xs->OcR H F κ o c x->OcsR H F κ o (cs.set k c) (xs.set k x)
 | [],xs,o,k,c,x,h,_=>by rw[show xs=[]from h];simp[OcsR]
 |c0::cs,xs,o,0,c,x,⟨x0,xs',h1,h2,h3⟩,h=>by rw[h1];exact⟨x,xs',rfl,h,h3⟩
 |c0::cs,xs,o,k+1,c,x,⟨x0,xs',h1,h2,h3⟩,h=>by rw[h1];exact⟨x0,xs'.set k x,rfl,h2,OcsR.set h3 h⟩
theorem OcsR.splice: ∀{ds:List Oc} {ys:List C} {cs:List Oc} {xs:List C} {o:Nat->Ob} {k:Nat},OcsR H F κ o cs xs->OcsR H F κ o ds ys->OcsR H F κ o (spliceO cs k ds) (splice xs k ys)
 | [],ys,cs,xs,o,k,h,h2=>by rw[show ys=[]from h2];exact h
 |d::ds,ys,cs,xs,o,k,h,⟨y,ys',h1,h2,h3⟩=>by rw[h1];exact OcsR.splice (ds:=ds) (ys:=ys') (OcsR.set h h2) h3
theorem z0o: ∀{ds cs:List Oc} {k:Nat} {c:Oc},c∈spliceO cs k ds->c∈cs\/c∈ds
 | [],cs,k,c,h=> .inl h
 |d::ds,cs,k,c,h=>by
  rcases z0o (ds:=ds) h with h |h
  ·rcases List.mem_or_eq_of_mem_set h with h |h
   ·exact .inl h
   ·exact .inr (by simp[h])
  ·exact .inr (by simp[h])
theorem z0C: ∀{ys xs:List C} {k:Nat},k+ys.length<=xs.length->splice xs k ys=xs.take k++ys++xs.drop (k+ys.length)
 | [],xs,k,h=>by simp[splice]
 |y::ys,xs,k,h=>by
  simp only[List.length_cons]at h
  rw[splice,z0C (by simp;omega)]
  have h1:(xs.set k y).take (k+1)=xs.take k++[y]:=by
   rw[List.take_set,List.take_add_one]
   have:xs[k]? =some xs[k]:=List.getElem?_eq_getElem (by omega)
   rw[this]
   have hl:(xs.take k).length=k:=by simp;omega
   rw[Option.toList_some,List.set_append_right _ _ (by omega),hl];simp
  have h2:(xs.set k y).drop (k+1+ys.length)=xs.drop (k+(ys.length+1)):=by
   rw[List.drop_set_of_lt (by omega)];congr 1;omega
  rw[h1,h2];simp
theorem OcsR.grow(m:FLe H F H' F'){cs:List Oc}{xs:List C}{c:C}{b:Ob}(hc: ∀k,z.n<=k->k<base-> ∀d∈cs,¬d.refs k)(hz:z.n<base)(h:OcsR H F κ z.o cs xs):OcsR H' F' (nameK κ z.n c) (nameO z.o z.n b) cs xs:=
 h.mono m fun k ⟨d,hd,hk⟩=>by
  have hne:k≠z.n:=fun he=>hc k (by omega) (by omega) d hd hk
  exact⟨z0M κ c hne,by rw[j0L z.o b hne];exact Compat.refl _⟩
end
section
variable{lim:Nat}{vcall:CallT}{md:FuncId->List RM}{ycall:YCallT}{b0:Nat}{F:Nat->Prop}{κ:Nat->C}{z:Z}{e:Env}{H:Heap}{A:Type}{K:Y->Z->Option A}{r:A}
theorem Out.pre{F':Nat->Prop}{κ':Nat->C}{z1 z2:Z}{o:ROp}{y:Y}(p:Pre b0 F κ z e H F' κ' z1)(k:Out lim vcall b0 F' κ' z1 e H o y z2):Out lim vcall b0 F κ z e H o y z2:=by
 obtain⟨F2,κ2,t,H2,h1,h2,h3,h4,h5,h6,h7,h8,h9,h10⟩:=k
 exact⟨F2,κ2,t,H2,h1,h2,h3,(⟨nR _,fun _ _=>rfl,p.le,p.from_,fun _ _ _=>rfl⟩:Adv b0 F H F' H _).trans h4,nT p.n h5,h6.trans p.s,h7,h8,fun k i hk=>(h9 k i hk).imp (p.own k i) id,fun i hi=>(h10 i hi).imp id fun⟨k,g1,g2⟩=>⟨k,by rw[<-K0p p.s];exact g1,p.own k i g2⟩⟩
theorem FLe.grow{H':Heap}(R:SR b0 F κ z e H)(hg: ∀i,i<H.next->H'.get i=H.get i):FLe H F H' F:=⟨fun _ h=>h,fun i hi=>hg i (R.flt i hi)⟩
theorem Out.new(R:SR b0 F κ z e H){b:Ob}{o:ROp}{c:C}{H':Heap}(h:z.new b K=some r)(hev: ∀{R2:Type} (K2:T->Heap->Option R2),evalOp lim vcall e H o K2=K2 (.val (.c c)) H')(hn:H.next<=H'.next)(hg: ∀i,i<H.next->H'.get i=H.get i)
  (hob:z.n<base->ObR H' F (nameK κ z.n c) (nameO z.o z.n b) b0 z.n b) (hid:b.live=true-> ∀i,idC c=some i->H.next<=i) (hbr: ∀k,z.n<=k->k<base-> ¬b.refs k): ∃y z',K y z'=some r/\Out lim vcall b0 F κ z e H o y z':=by
 obtain⟨hz,h⟩:=w0y h
 have hF: ∀i,F i->i<H'.next:=fun i hi=>nL (R.flt i hi) hn
 have m:=FLe.grow R hg
 refine⟨_,_,h,F,nameK κ z.n c, .val (.c c),H',hev,R.new hz m (fun i hi=> .inl hi) hF hn hg (hob hz) (fun hl i hi=>⟨hid hl i hi,fun hf=>by have:=R.flt i hf;have:=hid hl i hi;omega⟩) hbr, .inr (by rw[q0k]),⟨hn,fun i hi=>hg i (nL hi R.low),m,fun i hi=> .inl hi,fun _=>hg⟩,Nat.le_succ _,rfl,fun k h1 h2 h3=> ?_,(fun _ h=>by cases h),fun k i hk=> ?_,fun i hi=> .inl (hg i hi)⟩
 ·have h3:z.n=k:=h3
  simp only at h1
  omega
 ·rcases w0x hk with⟨_,g1,g2⟩ |⟨_,g⟩
  ·exact .inr (hid g1 i g2)
  ·exact .inl g
theorem Out.alloc(R:SR b0 F κ z e H){b:Ob}{o:ROp}{c:C}{ob:Obj}(h:z.new b K=some r)(hev: ∀{R2:Type} (K2:T->Heap->Option R2),evalOp lim vcall e H o K2=K2 (.val (.c c)) (H.alloc ob))
  (hob:z.n<base->FLe H F (H.alloc ob) F->ObR (H.alloc ob) F (nameK κ z.n c) (nameO z.o z.n b) b0 z.n b) (hid:idC c=some H.next) (hbr: ∀k,z.n<=k->k<base-> ¬b.refs k): ∃y z',K y z'=some r/\Out lim vcall b0 F κ z e H o y z':=
 Out.new R h hev (Nat.le_succ _) (fun i hi=>z0Q ob hi) (fun hz=>hob hz (FLe.grow R fun i hi=>z0Q ob hi)) (fun _ i hi=>by rw[hid]at hi;cases hi;exact nR _) hbr
theorem Z0M(R:SR b0 F κ z e H)(h:evalY md ycall z (.mov (.c (.c .nilSlice))) K=some r): ∃y z',K y z'=some r/\Out lim vcall b0 F κ z e H (.mov (.c (.c .nilSlice))) y z':=
 Out.new R (c:= .nilSlice) (H':=H) h (fun K2=>by simp only[evalOp,ev,oS]) (nR _) (fun _ _=>rfl) (fun _=> .inl ⟨rfl,rfl,q0k _ _ _⟩) (fun h=>by cases h) fun _ _ _ h=>h
theorem j1V(R:SR b0 F κ z e H){sz:Nat}{x:X}(h:evalY md ycall z (.box sz x) K=some r): ∃y z',K y z'=some r/\Out lim vcall b0 F κ z e H (.box sz x) y z':=by
 simp only[evalY]at h
 split at h
 ·obtain⟨cs,z1,F1,v,xs,h1,h2,h3,h4,h5,h6⟩:=R.ypart h
  split at h1
  ·rename_i hl
   have hxs:xs.length=sz:=by rw[<-h5.length];exact hl
   obtain⟨y,z',g1,g2⟩:=Out.alloc (lim:=lim) (vcall:=vcall) (o:= .box sz x) (c:= .ptr H.next 0) (ob:= .cells sz xs) h4.sr h1 (fun K2=>by simp only[evalOp,h2,h3,oS,if_pos hxs])
    (fun hz m=>⟨H.next,sz,xs,q0k _ _ _,R.low,by simp[Heap.alloc],j0g _ _,OcsR.grow m (fun k k1 k2=>h6 k (by rw[<-h4.n];exact k1) k2) hz h5⟩) rfl (fun k k1 k2 ⟨c,hc,hr⟩=>h6 k (by rw[<-h4.n];exact k1) k2 c hc hr)
   exact⟨y,z',g1, .pre (h4.pre R) g2⟩
  ·cases h1
 ·obtain⟨⟨u,z1⟩,hu,h⟩:=oB.1 h
  obtain⟨v,F1,h1,h2,h3⟩:=R.yf hu
  split at h
  ·rename_i hl
   obtain⟨xs,g1,g2⟩:=h3.cells
   have hxs:xs.length=sz:=by rw[<-g2.len];exact hl
   obtain⟨y,z',k1,k2⟩:=Out.alloc (lim:=lim) (vcall:=vcall) (o:= .box sz x) (c:= .ptr H.next 0) (ob:= .cells sz xs) h2.sr h (fun K2=>by simp only[evalOp,h1,g1,oS,if_pos hxs])
    (fun hz m=>⟨H.next,sz,xs,q0k _ _ _,R.low,by simp[Heap.alloc],j0g _ _,g2.mono m⟩) rfl (fun k k1 k2 h=>h)
   exact⟨y,z',k1, .pre (h2.pre R) k2⟩
  ·cases h
theorem Q0g(R:SR b0 F κ z e H){cs:List C}{K:List Oc->Z->Option A}{r:A}(h:z.zeros cs K=some r):
  ∃ocs z' κ',K ocs z'=some r/\Pre b0 F κ z e H F κ' z'/\OcsR H F κ' z'.o ocs cs/\ ∀k,z'.n<=k->k<base-> ∀c∈ocs,¬c.refs k:=by
 obtain⟨ocs,z',κ',h1,h2,h3,h4,h5,h6,_,h8⟩:=k0b R h
 exact⟨ocs,z',κ',h1,⟨h2, .refl _ _,fun _ h=> .inl h,h4,h5,h8⟩,h3,h6⟩
theorem j1W(R:SR b0 F κ z e H){c:List C}(h:evalY md ycall z (.new c) K=some r): ∃y z',K y z'=some r/\Out lim vcall b0 F κ z e H (.new c) y z':=by
 simp only[evalY]at h
 split at h
 ·obtain⟨ocs,z1,κ1,h1,h2,h3,h4⟩:=Q0g R h
  obtain⟨y,z',g1,g2⟩:=Out.alloc (lim:=lim) (vcall:=vcall) (o:= .new c) (c:= .ptr H.next 0) (ob:= .cells c.length c) h2.sr h1 (fun K2=>by simp only[evalOp])
   (fun hz m=>⟨H.next,_,c,q0k _ _ _,R.low,by simp[Heap.alloc],j0g _ _,OcsR.grow m h4 hz h3⟩) rfl (fun k k1 k2 ⟨c,hc,hr⟩=>h4 k k1 k2 c hc hr)
  exact⟨y,z',g1, .pre h2 g2⟩
 ·obtain⟨us,hus,h⟩:=oB.1 h
  exact Out.alloc (lim:=lim) (vcall:=vcall) (o:= .new c) (c:= .ptr H.next 0) (ob:= .cells c.length c) R h (fun K2=>by simp only[evalOp])
   (fun hz m=>⟨H.next,_,c,q0k _ _ _,R.low,by simp[Heap.alloc],j0g _ _,z0m hus⟩) rfl (fun k k1 k2 h=>h)
theorem Q0h{K:List Oc->Z->Option A}{r:A}: ∀{ps:List (Nat×Nat×X)} {F:Nat->Prop} {z:Z} {cs:List Oc} {xs:List C},SR b0 F κ z e H->OcsR H F κ z.o cs xs->(∀k,z.n<=k->k<base-> ∀c∈cs,¬c.refs k)->yfill z cs ps K=some r->
  ∃cs' z' F' xs',K cs' z'=some r/\Fzd b0 κ e H F z F' z'/\fillC e xs ps=some xs'/\OcsR H F' κ z'.o cs' xs'/\ ∀k,z'.n<=k->k<base-> ∀c∈cs',¬c.refs k
 | [],F,z,cs,xs,R,hc,hr,h=>⟨cs,z,F,xs,h, .refl R,rfl,hc,hr⟩
 |(o,n,x)::ps,F,z,cs,xs,R,hc,hr,h=>by
  simp only[yfill]at h
  obtain⟨ds,z1,F1,v,ys,h1,h2,h3,h4,h5,h6⟩:=R.ypart h
  split at h1
  ·rename_i hl
   have hc1:OcsR H F1 κ z1.o cs xs:=hc.mono h4.le fun k ⟨d,hd,hk⟩=>⟨rfl,h4.comp k⟩
   have hl1:ys.length=n/\o+n<=xs.length:=by rw[<-h5.length,<-hc.length];exact hl
   obtain⟨cs',z',F',xs',g1,g2,g3,g4,g5⟩:=Q0h h4.sr (hc1.splice (k:=o) h5) (fun k k1 k2 c hcm=>by
    rw[h4.n]at k1
    rcases z0o hcm with hcm |hcm
    ·exact hr k k1 k2 c hcm
    ·exact h6 k k1 k2 c hcm) h1
   exact⟨cs',z',F',xs',g1,h4.trans g2,by simp only[fillC,h2,h3,oS,if_pos hl1,g3],g4,g5⟩
  ·cases h1
end
section
variable{b0:Nat}{F F':Nat->Prop}{κ:Nat->C}{z:Z}{e:Env}{H H':Heap}
theorem Q0L{A:Type}: ∀{ps:List (Nat×Nat×X)} {F:Nat->Prop} {z:Z} {o m:Nat} {c:List C} {K:List U->Z->Option A} {r:A},SR b0 F κ z e H->c.length=m->ybig z o m ps K=some r->
  ∃us z' F' ys,K us z'=some r/\Fzd b0 κ e H F z F' z'/\fillC e c ps=some (c.take o++ys)/\UCs H F' us ys/\o<=m
 | [],F,z,o,m,c,K,r,R,hc,h=>by
  simp only[ybig]at h
  split at h
  ·rename_i hom
   exact⟨[],z,F,[],h, .refl R,by simp only[fillC,hom,<-hc,List.take_length,List.append_nil],rfl,by omega⟩
  ·cases h
 |(o',n,x)::ps,F,z,o,m,c,K,r,R,hc,h=>by
  simp only[ybig]at h
  obtain⟨⟨u,z1⟩,hu,h⟩:=oB.1 h
  obtain⟨v,F1,h1,h2,h3⟩:=R.yf hu
  split at h
  ·rename_i ho
   subst ho
   split at h
   ·rename_i hn
    simp only at hn h
    obtain⟨xs,g1,g2⟩:=h3.cells
    have hxs:xs.length=n:=by rw[<-g2.len];exact hn
    have hlen:(splice c o' xs).length=m:=by rw[<-hc,q0G]
    obtain⟨us,z',F',ys,k1,k2,k3,k4,k5⟩:=Q0L h2.sr hlen h
    have hle:o'+xs.length<=c.length:=by omega
    refine⟨_,z',F',xs++ys,k1,h2.trans k2, ?_,(g2.mono k2.le).cells.append k4,by omega⟩
    simp only[fillC,h1,g1,oS]
    rw[if_pos ⟨hxs,by omega⟩,k3,z0C hle]
    have ht:(c.take o'++xs++c.drop (o'+xs.length)).take (o'+xs.length)=c.take o'++xs:=by
     rw[List.take_append_of_le_length (by simp;omega)]
     exact List.take_of_length_le (by simp;omega)
    rw[<-hxs,ht,List.append_assoc]
   ·cases h
  ·cases h
theorem w0i{A:Type}{sz:Nat}: ∀{ps:List (Nat×Nat×X)} {F:Nat->Prop} {z:Z} {es:List U} {xs:List C} {K:List U->Z->Option A} {r:A},SR b0 F κ z e H->EsR H F es sz xs->yelems sz z es ps K=some r->
  ∃es' z' F' ys,K es' z'=some r/\Fzd b0 κ e H F z F' z'/\fillC e xs ps=some ys/\EsR H F' es' sz ys/\es'.length=es.length
 | [],F,z,es,xs,K,r,R,hc,h=>⟨es,z,F,xs,h, .refl R,rfl,hc,rfl⟩
 |(o,n,x)::ps,F,z,es,xs,K,r,R,hc,h=>by
  simp only[yelems]at h
  obtain⟨⟨u,z1⟩,hu,h⟩:=oB.1 h
  obtain⟨v,F1,h1,h2,h3⟩:=R.yf hu
  split at h
  ·rename_i ho
   obtain⟨rfl,ho,hlt⟩:=ho
   split at h
   ·rename_i hn
    simp only at hn h
    obtain⟨ys,g1,g2⟩:=h3.cells
    have hys:ys.length=n:=by rw[<-g2.len];exact hn
    have hlen:=hc.length
    have hoo:o / n*n=o:=Nat.div_mul_cancel (Nat.dvd_of_mod_eq_zero ho)
    have hle:(o / n+1)*n<=es.length*n:=Nat.mul_le_mul_right _ hlt
    rw[Nat.add_mul,hoo,Nat.one_mul]at hle
    have hset:=(hc.mono h2.le).set g2 hys hlt
    rw[Nat.add_mul,hoo,Nat.one_mul]at hset
    have hsp:splice xs o ys=xs.take o++ys++xs.drop (o+n):=by rw[<-hys];exact z0C (by rw[hys];omega)
    rw[<-hsp]at hset
    obtain⟨es',z',F',ws,k1,k2,k3,k4,k5⟩:=w0i h2.sr hset h
    exact⟨es',z',F',ws,k1,h2.trans k2,by simp only[fillC,h1,g1,oS];rw[if_pos ⟨hys,by omega⟩,k3],k4,by rw[k5];simp⟩
   ·cases h
  ·cases h
theorem Q0i{us:List U}{xs:List C}{sz:Nat}(h:UCs H F us xs):UC H F (zeroE us sz) xs:=by
 unfold zeroE
 split
 ·split
  ·rename_i x
   obtain⟨c,cs,rfl,h2,h3,h4⟩:=h
   rw[show cs=[]from h4];exact h3
  ·exact h
 ·exact h
theorem Q0M{sz:Nat}: ∀{n:Nat} {us:List U} {xs:List C},UCs H F us xs->xs.length=n*sz->EsR H F (chunks sz n us) sz xs
 | 0,us,xs,h,hl=>by
  rw[Nat.zero_mul]at hl
  exact List.length_eq_zero_iff.1 hl
 |n+1,us,xs,h,hl=>by
  rw[Nat.add_mul,Nat.one_mul]at hl
  exact⟨xs.take sz,xs.drop sz,(List.take_append_drop _ _).symm,by simp;omega,Q0i (h.take sz),Q0M (h.drop sz) (by simp;omega)⟩
theorem K0v{sz:Nat}{v:U}{xs:List C}(h:UC H F v xs)(hl:xs.length=sz): ∀n:Nat,EsR H F (List.replicate n v) sz (List.replicate n xs).flatten
 | 0=>rfl
 |n+1=>⟨xs,(List.replicate n xs).flatten,rfl,hl,h,K0v h hl n⟩
theorem k0I{sz:Nat}: ∀{n:Nat} {us:List U},(chunks sz n us).length=n
 | 0,_=>rfl
 |n+1,us=>by rw[chunks,List.length_cons,k0I]
end
section
variable{lim:Nat}{vcall:CallT}{md:FuncId->List RM}{ycall:YCallT}{b0:Nat}{F:Nat->Prop}{κ:Nat->C}{z:Z}{e:Env}{H:Heap}{A:Type}{K:Y->Z->Option A}{r:A}
theorem K0w(R:SR b0 F κ z e H){c:List C}{ps:List (Nat×Nat×X)}(h:evalY md ycall z (.build c ps) K=some r): ∃y z',K y z'=some r/\Out lim vcall b0 F κ z e H (.build c ps) y z':=by
 simp only[evalY]at h
 split at h
 ·obtain⟨ocs,z1,κ1,h1,h2,h3,h4⟩:=Q0g R h
  obtain⟨cs',z2,F2,xs,g1,g2,g3,g4,g5⟩:=Q0h h2.sr h3 h4 h1
  refine⟨_,z2,g1, .pre (h2.trans (g2.pre h2.sr)) ⟨F2,κ1, .val (.agg xs),H,fun K2=>by simp only[evalOp,g3,oS],g2.sr,⟨xs,rfl,g4⟩, .refl _ _ _ _,nR _,rfl,fun k k1 k2 ⟨c,hc,hr⟩=>g5 k k1 k2 c hc hr,(fun _ h=>by cases h),fun _ _ h=> .inl h,fun _ _=> .inl rfl⟩⟩
 ·obtain⟨us,z1,F1,ys,g1,g2,g3,g4,_⟩:=Q0L R rfl h
  exact⟨_,z1,g1, .after R g2 (.val g2.sr (v:= .agg ys) (fun K2=>by simp only[evalOp,g3,oS,List.take_zero,List.nil_append]) ⟨us,rfl,g4⟩)⟩
theorem K1g{b0:Nat}{F:Nat->Prop}{κ:Nat->C}{o:Nat->Ob}{H H':Heap}{k i sz p:Nat}{es:List U}{xs:List C}(hκ:κ k= .slice i p es.length)(hb:b0<=i)(hi:i<H'.next)(hg:H'.get i=some (.cells sz xs))(hp:p=0)(he:EsR H' F es sz xs):ObR H' F κ o b0 k (.sl ⟨true,sz,es⟩):=by
 subst hp
 have hl:=he.length
 exact .inr ⟨rfl,i,0,xs,hκ,hb,hi,hg,by show 0+es.length*sz<=_;omega,by simpa[<-hl]using he⟩
theorem j1X(R:SR b0 F κ z e H){sz len:Nat}{c:List C}{ps:List (Nat×Nat×X)}(h:evalY md ycall z (.lit sz len c ps) K=some r): ∃y z',K y z'=some r/\Out lim vcall b0 F κ z e H (.lit sz len c ps) y z':=by
 simp only[evalY]at h
 obtain⟨us,hus,h⟩:=oB.1 h
 split at h
 ·rename_i hc
  obtain⟨hc,h0⟩:=hc
  obtain⟨es,z1,F1,ys,g1,g2,g3,g4,g5⟩:=w0i R (Q0M (z0m hus) hc) h
  rw[k0I]at g5
  obtain⟨y,z',k1,k2⟩:=Out.alloc (lim:=lim) (vcall:=vcall) (o:= .lit sz len c ps) (c:= .slice H.next 0 len) (ob:= .cells sz ys) g2.sr g1 (fun K2=>by simp only[evalOp,g3,oS])
   (fun hz m=>K1g (H:=H) (xs:=ys) (i:=H.next) (p:=0) (by rw[q0k,g5]) R.low (by simp[Heap.alloc]) (j0g _ _) rfl (g4.mono m)) rfl (fun _ _ _ h=>h)
  exact⟨y,z',k1, .pre (g2.pre R) k2⟩
 ·cases h
theorem j1Y(R:SR b0 F κ z e H){sz:Nat}{c:List C}{n:X}(h:evalY md ycall z (.mkS sz c n) K=some r): ∃y z',K y z'=some r/\Out lim vcall b0 F κ z e H (.mkS sz c n) y z':=by
 simp only[evalY]at h
 obtain⟨m,hm,h⟩:=oB.1 h
 obtain⟨us,hus,h⟩:=oB.1 h
 split at h
 ·rename_i hc
  obtain⟨h1,h2,h3⟩:=hc
  exact Out.alloc (lim:=lim) (vcall:=vcall) (o:= .mkS sz c n) (c:= .slice H.next 0 m.toNat) (ob:= .cells sz ((List.replicate m.toNat c).flatten)) R h (fun K2=>by simp only[evalOp,R.ylI hm,oS,if_pos (And.intro h1 h2)])
   (fun hz mm=>K1g (H:=H) (i:=H.next) (p:=0) (by rw[q0k];simp) R.low (by simp[Heap.alloc]) (j0g _ _) rfl (K0v (Q0i (z0m hus)) h3 _)) rfl (fun _ _ _ h=>h)
 ·cases h
theorem Y0s(R:SR b0 F κ z e H){sz:Nat}{c:List C}{s n:X}(h:evalY md ycall z (.appZ sz c s n) K=some r): ∃y z',K y z'=some r/\Out lim vcall b0 F κ z e H (.appZ sz c s n) y z':=by
 simp only[evalY]at h
 obtain⟨u,hu,h⟩:=oB.1 h
 split at h
 ·rename_i hn
  obtain⟨v,v1,v2⟩:=R.yl hu
  have hv:=k0c v2 hn
  subst hv
  obtain⟨m,hm,h⟩:=oB.1 h
  obtain⟨us,hus,h⟩:=oB.1 h
  split at h
  ·rename_i hc
   obtain⟨h1,h2,h3⟩:=hc
   exact Out.alloc (lim:=lim) (vcall:=vcall) (o:= .appZ sz c s n) (c:= .slice H.next 0 m.toNat) (ob:= .cells sz ((List.replicate m.toNat c).flatten)) R h (fun K2=>by simp only[evalOp,evC,v1,V.asC,R.ylI hm,oS];rw[if_pos ⟨rfl,h1,h2⟩])
    (fun hz mm=>K1g (H:=H) (i:=H.next) (p:=0) (by rw[q0k];simp) R.low (by simp[Heap.alloc]) (j0g _ _) rfl (K0v (Q0i (z0m hus)) h3 _)) rfl (fun _ _ _ h=>h)
  ·cases h
 ·cases h
theorem K0x{H:Heap}{F:Nat->Prop}{b:Bool}{es:List U}{v:V}{sz:Nat}(h:UV H F (.sl b es) v)(hs: ∀w∈es,w.size=sz): ∃c xs,v= .c c/\H.cellsOf sz c=some xs/\c.len=some es.length/\EsR H F es sz xs:=by
 cases v with
 |tuple vs=>exact h.elim
 |agg xs=>obtain⟨us,h,_⟩:=h;cases h
 |c c=>
  rcases h.2 with⟨k1,k2,k3⟩ |⟨k1,j,o,cs,z0,k3,k4,k5,k6,k7⟩
  ·simp at k3;subst k3;subst k2
   exact⟨_,[],rfl,rfl,rfl,rfl⟩
  ·simp at k3;subst k3
   have hsz:es.length*sz=es.length*z0:=by
    cases es with
    |nil=>simp
    |cons a b=>rw[<-hs a (by simp),k7.sizes a (by simp)]
   refine⟨_,(cs.drop o).take (es.length*sz),rfl,X0y k5 (by rw[hsz];exact k6),rfl, ?_⟩
   rw[hsz]
   cases es with
   |nil=>simp[EsR]
   |cons a b=>
    have:sz=z0:=by rw[<-hs a (by simp),k7.sizes a (by simp)]
    subst this;exact k7
theorem k1Q{A:Type}{P:Prop} [Decidable P]{x:Option A}{r:A}:((if P then x else none)=some r)=(P/\x=some r):=by
 by_cases h:P<;>simp[h]
theorem j1Z{A:Type}{z:Z}{x:X}{Ko:Nat->Sx->Option A}{Kf:U->Option A}{nm:Option Nat}(hn:nameOf z x=nm):ysl z x Ko Kf=ysl z x (fun k s=>if nm=some k then Ko k s else none) Kf:=by
 cases x with
 |c v=>rfl
 |f g=>rfl
 |t p=>
  simp only[nameOf]at hn
  simp only[ysl]
  cases hp:z.s p with
  |h k=>rw[hp]at hn;simp only at hn;subst hn;simp only[iT]
  |_=>rfl
theorem w0z{H:Heap}{i j:Nat}(h:j≠i):(H.kill i).get j=H.get j:=by simp[Heap.kill,h]
theorem X0C{t t':Sx}{sz:Nat}{xs:List U}(h:t.app sz xs=some t'):(t.b=false\/t.sz=sz)/\(∀v∈xs,v.size=sz)/\roomy (t.es.length+xs.length)/\((t.b=false/\xs=[]/\t'=t)\/(¬(t.b=false/\xs=[])/\t'=⟨true,sz,t.es++xs⟩)):=by
 unfold Sx.app at h
 split at h
 ·rename_i hh
  obtain⟨h1,h2,h3⟩:=hh
  refine⟨h1,fun v hv=>by have:=List.all_eq_true.1 h2 v hv;simpa using this,h3, ?_⟩
  split at h
  ·rename_i h4;cases h;exact .inl ⟨h4.1,h4.2,rfl⟩
  ·rename_i h4;cases h;exact .inr ⟨h4,rfl⟩
 ·cases h
theorem SR.yap(R:SR b0 F κ z e H){x:X}{u:U}{z':Z}(h:yap z x=some (u,z')): ∃v F',ev e x=some v/\Fzd b0 κ e H F z F' z'/\
  ∀(b:Bool) (es:List U) (sz:Nat),u= .sl b es->(∀w∈es,w.size=sz)-> ∃c xs,v= .c c/\H.cellsOf sz c=some xs/\c.len=some es.length/\EsR H F' es sz xs:=by
 have old:Vm.yf z x=some (u,z')-> ∃v F',ev e x=some v/\Fzd b0 κ e H F z F' z'/\
   ∀(b:Bool) (es:List U) (sz:Nat),u= .sl b es->(∀w∈es,w.size=sz)-> ∃c xs,v= .c c/\H.cellsOf sz c=some xs/\c.len=some es.length/\EsR H F' es sz xs:=fun h=>by
  obtain⟨v,F1,h1,h2,h3⟩:=R.yf h
  exact⟨v,F1,h1,h2,fun b es sz hu hs=>by subst hu;exact K0x h3 hs⟩
 unfold Vm.yap at h
 split at h
 rotate_left
 ·exact old h
 rename_i p
 split at h
 rotate_left
 ·exact old h
 rename_i k hp
 split at h
 rotate_left
 ·exact old h
 rename_i s hk
 cases h
 have hs:=R.sl p
 rw[hp]at hs
 have hob:=R.ob k
 rw[hk]at hob
 refine⟨.c (κ k),F,by simp only[ev];rw[show e.get p= .val (.c (κ k))from hs.resolve_left (by rw[hk];simp[Ob.isNone])], .refl R,fun b es sz hu hsz=> ?_⟩
 cases hu
 rcases hob with⟨k1,k2,k3⟩ |⟨hb,i,q,cs,k1,k2,k3,k4,k5,k6⟩
 ·exact⟨κ k,[],rfl,by rw[k3];rfl,by rw[k3,k2];rfl,by rw[k2];rfl⟩
 ·have e2:s.es.length*sz=s.es.length*s.sz:=by
   cases hes:s.es with
   |nil=>simp
   |cons a b=>rw[<-hsz a (by rw[hes];simp),k6.sizes a (by rw[hes];simp)]
  refine⟨κ k,(cs.drop q).take (s.es.length*sz),rfl,by rw[k1];exact X0y k4 (by rw[e2];exact k5),by rw[k1];rfl, ?_⟩
  rw[e2]
  cases hes:s.es with
  |nil=>simp[EsR]
  |cons a b=>
   have:sz=s.sz:=by rw[<-hsz a (by rw[hes];simp),k6.sizes a (by rw[hes];simp)]
   rw[this,<-hes];exact k6
theorem z1a(hlim:lim<=b0)(R:SR b0 F κ z e H){sz:Nat}{s x:X}(h:evalY md ycall z (.app sz s x) K=some r): ∃y z',K y z'=some r/\Out lim vcall b0 F κ z e H (.app sz s x) y z':=by
 simp only[evalY]at h
 obtain⟨⟨u,z1⟩,hu,h⟩:=oB.1 h
 obtain⟨q,hq,h9⟩:=oB.1 h
 clear h
 obtain⟨v,F1,e1,hz1,hv⟩:=R.yap hu
 simp only at hq h9
 cases u<;>simp[U.asL]at hq
 subst hq
 rename_i b es
 have nil: ∀{z2:Z} {b':Bool} {sz':Nat},SR b0 F1 κ z2 e H->(∀k i,Owns z2.o κ k i->Owns z1.o κ k i)->z2.n=z1.n->z2.s=z1.s->evC e s=some .nilSlice-> ∀{t':Sx},(Sx.mk false sz' []).app sz es=some t'->z2.new (.sl t') K=some r-> ∃y z',K y z'=some r/\Out lim vcall b0 F κ z e H (.app sz s x) y z':=by
  intro z2 b' sz' R2 ho2 hn2 hs2 he t' ht h
  obtain⟨t1,t2,t3,t4⟩:=X0C ht
  obtain⟨c,xs,rfl,c1,c2,c3⟩:=hv _ _ _ rfl t2
  have hp:Pre b0 F κ z e H F1 κ z2:=⟨R2,hz1.le,(hz1.pre R).from_,by rw[hn2];exact(hz1.pre R).n,hs2.trans hz1.s,fun k i hk=>hz1.own k i (ho2 k i hk)⟩
  rcases t4 with⟨_,t5,rfl⟩ |⟨t4,rfl⟩
  ·subst t5
   obtain⟨y,z',k1,k2⟩:=Out.new (lim:=lim) (vcall:=vcall) (o:= .app sz s x) (c:= .nilSlice) (H':=H) R2 h (fun K2=>by simp only[evalOp,he,evC,e1,V.asC,c1,c2,oS,List.length_nil,Heap.app,iT];rw[show(ev e s).bind V.asC=some .nilSlice from he];simp only[oS,iT,Heap.app]) (nR _) (fun _ _=>rfl)
    (fun _=> .inl ⟨rfl,rfl,q0k _ _ _⟩) (fun h=>by cases h) fun _ _ _ h=>h
   exact⟨y,z',k1, .pre hp k2⟩
  ·have hne:es.length≠0:=fun h0=>t4 ⟨rfl,List.length_eq_zero_iff.1 h0⟩
   simp only[List.length_nil,Nat.zero_add]at t3
   obtain⟨y,z',k1,k2⟩:=Out.alloc (lim:=lim) (vcall:=vcall) (o:= .app sz s x) (c:= .slice H.next 0 es.length) (ob:= .cells sz xs) R2 h (fun K2=>by
     simp only[evalOp,evC,e1,V.asC,oS]
     rw[show(ev e s).bind V.asC=some .nilSlice from he]
     simp only[oS,c1,c2,Heap.app,if_neg hne,if_pos t3])
    (fun hz m=>K1g (H:=H) (xs:=xs) (i:=H.next) (p:=0) (by rw[q0k];simp) R2.low (by simp[Heap.alloc]) (j0g _ _) rfl (by simpa using c3.mono m)) rfl (fun _ _ _ h=>h)
   exact⟨y,z',k1, .pre hp k2⟩
 rw[j1Z rfl]at h9
 rcases hz1.sr.ysl h9 with⟨k,t,h1,h2,h3⟩ |⟨u,w,h1,h2,h3⟩
 ·rw[k1Q]at h1
  obtain⟨hnm,h1⟩:=h1
  obtain⟨t',ht,h8⟩:=oB.1 h1
  clear h1
  have hob:=hz1.sr.ob k
  rw[h2]at hob
  have hne:z1.o k≠ .none:=by rw[h2];simp
  rcases hob with⟨k1,k2,k3⟩ |⟨hb,i,p,cs,k1,k2,k3,k4,k5,k6⟩
  ·have R2:SR b0 F1 κ (z1.setO k .none) e H:=hz1.sr.repl hne (.refl _ _) (nR _) (by rw[h2];trivial) trivial (fun _ _ _ _=>rfl) (fun h=>by cases h) (fun i hi=> .inl hi) fun _ _ _ h=>h
   rw[k3]at h3
   obtain⟨tb,ts,te⟩:=t
   simp only at k1 k2
   subst k1 k2
   exact nil (b':=false) R2 (fun j i' hj=>by
    by_cases hjk:j=k
    ·subst hjk;rw[Owns,setO_same]at hj;cases hj.1
    ·rw[Owns,j0f z1 _ hjk]at hj;exact hj) rfl rfl h3 ht h8
  ·obtain⟨t1,t2,t3,t4⟩:=X0C ht
   obtain⟨c,xs,rfl,c1,c2,c3⟩:=hv _ _ _ rfl t2
   have hsz:t.sz=sz:=t1.resolve_left (by rw[hb];simp)
   subst hsz
   have hown:Owns z1.o κ k i:=⟨by rw[h2];exact hb,by rw[k1];rfl⟩
   have m1:FLe H F1 (H.kill i) F1:=⟨fun _ h=>h,fun j hj=>w0z fun h=>hz1.sr.disj k i hown (h▸hj)⟩
   have R2:SR b0 F1 κ (z1.setO k .none) e (H.kill i):=hz1.sr.repl hne m1 (nR _) (by rw[h2];trivial) trivial (fun j i' hj hi'=>w0z fun h=>hj (hz1.sr.inj j k i' hi' (h▸hown))) (fun h=>by cases h) (fun i hi=> .inl hi) fun _ _ _ h=>h
   have t5:t'=⟨true,t.sz,t.es++es⟩:=by
    rcases t4 with⟨t4,_⟩ |⟨_,t4⟩
    ·rw[hb]at t4;cases t4
    ·exact t4
   subst t5
   obtain⟨hz,h1⟩:=w0y h8
   have hev: ∀{R2:Type} (K2:T->Heap->Option R2),evalOp lim vcall e H (.app t.sz s x) K2=K2 (.val (.c (.slice H.next 0 (t.es.length+es.length)))) ((H.kill i).alloc (.cells t.sz ((cs.drop p).take (t.es.length*t.sz)++xs))):=fun K2=>by
    simp only[evalOp,evC,e1,V.asC,oS]
    rw[show(ev e s).bind V.asC=some (κ k)from h3,k1]
    simp only[oS,c1,c2,Heap.app,k4]
    rw[if_pos ⟨nT hlim k2,trivial,k5,t3⟩];rfl
   have m2:FLe (H.kill i) F1 ((H.kill i).alloc (.cells t.sz ((cs.drop p).take (t.es.length*t.sz)++xs))) F1:=FLe.grow R2 fun j hj=>z0Q _ hj
   have R3:=R2.new (b:= .sl ⟨true,t.sz,t.es++es⟩) (c:= .slice H.next 0 (t.es.length+es.length)) hz m2 (fun i hi=> .inl hi) (fun i hi=>nL (R2.flt i hi) (Nat.le_succ _)) (Nat.le_succ _) (fun j hj=>z0Q _ hj)
    (K1g (H:=H) (i:=H.next) (p:=0) (by rw[q0k];simp) R2.low (Nat.lt_succ_self _) (j0g (H.kill i) _) rfl ((k6.mono (m1.trans m2)).append (c3.mono (m1.trans m2)))) (fun _ j hj=>by cases hj;exact⟨nR _,fun hf=>by have:=R2.flt _ hf;exact absurd this (Nat.lt_irrefl _)⟩) (fun _ _ _ h=>h)
   refine⟨_,_,h1,F1,_,_,_,hev,R3, .inr (by rw[q0k]),⟨Nat.le_succ _,fun j hj=> ?_,hz1.le.trans (m1.trans m2),(hz1.pre R).from_,fun hq=>by cases hq⟩, ?_,hz1.s,fun j j1 j2 j3=> ?_,(fun _ h=>by cases h),fun j i' hj=> ?_,fun j hj=> ?_⟩
   ·have hlow:=R2.low
    rw[z0Q _ (nL hj hlow)]
    exact w0z (by omega)
   ·show z.n<=z1.n+1;rw[hz1.n];omega
   ·have j3:z1.n=j:=j3
    have j1:z1.n+1<=j:=j1
    omega
   ·rcases w0x hj with⟨_,_,g⟩ |⟨_,hj'⟩
    ·cases g;exact .inr (nR _)
    ·by_cases hjk:j=k
     ·subst hjk;rw[Owns,setO_same]at hj';cases hj'.1
     ·rw[Owns,j0f z1 _ hjk]at hj';exact .inl (hz1.own j i' hj')
   ·by_cases hji:j=i
    ·subst hji;exact .inr ⟨k,by rw[<-K0p hz1.s];exact hnm,hz1.own k j hown⟩
    ·exact .inl ((z0Q (H:=H.kill i) _ hj).trans (w0z hji))
 ·split at h1
  ·obtain⟨t',ht,h1⟩:=oB.1 h1
   cases w with
   |tuple vs=>exact h3.elim
   |agg xs=>obtain⟨us,h,_⟩:=h3;cases h
   |c c=>
    rcases h3.2 with⟨_,_,g3⟩ |⟨g1,_⟩
    ·simp at g3;subst g3
     exact nil (b':=false) hz1.sr (fun _ _ h=>h) rfl rfl (by simp only[evC,h2,V.asC,oS]) ht h1
    ·cases g1
  ·cases h1
end
def SlR(n0:Nat)(H:Heap)(F:Nat->Prop)(s:Sx)(v:V):Prop:=
 (s.b=false/\s.es=[]/\v= .c .nilSlice)\/(s.b=true/\ ∃i p cs,v= .c (.slice i p s.es.length)/\n0<=i/\i<H.next/\ ¬F i/\H.get i=some (.cells s.sz cs)/\p+s.es.length*s.sz<=cs.length/\EsR H F s.es s.sz ((cs.drop p).take (s.es.length*s.sz)))
def UmR(n0:Nat)(H:Heap)(F:Nat->Prop):RM->U->V->Prop
 | .sc,u,v=>u.scal=true/\UV H F u v
 | .sls,u,v=> ∃s:Sx,u=s.fz/\scals s.es=true/\((s.b=false/\s.es=[]/\v= .c .nilSlice)\/(s.b=true/\ ∃i p cs,v= .c (.slice i p s.es.length)/\n0<=i/\F i/\H.get i=some (.cells s.sz cs)/\p+s.es.length*s.sz<=cs.length/\EsR H F s.es s.sz ((cs.drop p).take (s.es.length*s.sz))))
 |_,u,v=>UV H F u v
def UmRs(n0:Nat)(H:Heap)(F:Nat->Prop):List RM->List U->List V->Prop
 | [],[],vs=>vs=[]
 |m::ms,u::us,vs=> ∃v vs',vs=v::vs'/\UmR n0 H F m u v/\UmRs n0 H F ms us vs'
 |_,_,_=>False
def RzR(n0:Nat)(H:Heap)(F:Nat->Prop)(ms:List RM)(r:Rz)(v:V):Prop:=
 match ms with
 | [m]=>match m,r with
  | .sl, .sl s=>SlR n0 H F s v
  | .sls, .sl s=>SlR n0 H F s v/\scals s.es=true
  | .sc, .val u=>u.scal=true/\UV H F u v
  | .va, .val u=>UV H F u v
  |_,_=>False
 |ms=>match r with
  | .tup us=> ∃vs,v= .tuple vs/\UmRs n0 H F ms us vs
  |_=>False
def CallsOK(lim:Nat)(vcall:CallT)(md:FuncId->List RM)(ycall:YCallT):Prop:=
 ∀f us r,ycall f us=some r-> ∀(H:Heap) (F:Nat->Prop) vs,lim<=H.next->(∀i,F i->i<H.next)->UVs H F us vs->
  ∃v H' F',vcall f vs H=some (v,H')/\H.next<=H'.next/\(∀i,i<H.next->H'.get i=H.get i)/\(∀i,F i->F' i)/\(∀i,F' i->F i\/H.next<=i)/\(∀i,F' i->i<H'.next)/\RzR H.next H' F' (md f) r v
section
variable{H H':Heap}{F F':Nat->Prop}
theorem Q0N: ∀{cs:List U} {xs:List C},cs.all U.fl=true->UCs H F cs xs->UCs H' F' cs xs
 | [],xs,_,h=>h
 |u::us,xs,h,⟨c,cs,h1,h2,h3,h4⟩=>by
  simp only[List.all_cons,bA]at h
  refine⟨c,cs,h1,h2, ?_,Q0N h.2 h4⟩
  cases u with
  |c x=>exact h3
  |_=>cases h.1
theorem K0y{u:U}{xs:List C}(h:u.scal=true)(hu:UC H F u xs):UC H' F' u xs:=by
 cases u with
 |c x=>exact hu
 |st cs=>exact Q0N h hu
 |_=>cases h
theorem z1b{u:U}{v:V}(h:u.scal=true)(hu:UV H F u v):UV H' F' u v:=by
 cases v with
 |c c=>exact⟨hu.1,K0y h hu.2⟩
 |agg xs=>obtain⟨us,rfl,h2⟩:=hu;exact⟨us,rfl,K0y (u:= .st us) h h2⟩
 |tuple vs=>exact hu.elim
theorem J0I: ∀{es:List U} {sz:Nat} {xs:List C},scals es=true->EsR H F es sz xs->EsR H' F' es sz xs
 | [],sz,xs,_,h=>h
 |e::es,sz,xs,h,⟨a,b,h1,h2,h3,h4⟩=>by
  simp only[scals,bA]at h
  exact⟨a,b,h1,h2,K0y h.1 h3,J0I h.2 h4⟩
theorem UmR.uv{n0:Nat}{m:RM}{u:U}{v:V}(h:UmR n0 H F m u v):UV H F u v:=by
 cases m with
 |sc=>exact h.2
 |va=>exact h
 |sl=>exact h
 |sls=>
  obtain⟨s,rfl,h1,h2⟩:=h
  rcases h2 with⟨g1,g2,rfl⟩ |⟨g1,i,p,cs,rfl,g3,g4,g5,g6,g7⟩
  ·exact⟨rfl, .inl ⟨g1,g2,rfl⟩⟩
  ·exact⟨rfl, .inr ⟨g1,i,p,cs,s.sz,rfl,g4,g5,g6,g7⟩⟩
theorem UmRs.uvs{n0:Nat}: ∀{ms:List RM} {us:List U} {vs:List V},UmRs n0 H F ms us vs->UVs H F us vs
 | [],[],vs,h=>h
 |m::ms,u::us,vs,⟨v,vs',h1,h2,h3⟩=>⟨v,vs',h1,h2.uv,UmRs.uvs h3⟩
 | [],u::us,vs,h=>h.elim
 |m::ms,[],vs,h=>h.elim
theorem SlR.lent{n0:Nat}{s:Sx}{v:V}(hF: ∀i,F i->i<n0)(hs:scals s.es=true)(h:SlR n0 H F' s v):SlR n0 H (fun i=>F i\/(n0<=i/\F' i)) s v:=by
 rcases h with h |⟨g1,i,p,cs,g2,g3,g4,g5,g6,g7,g8⟩
 ·exact .inl h
 ·exact .inr ⟨g1,i,p,cs,g2,g3,g4,fun h=>h.elim (fun h=>by have:=hF i h;omega) fun h=>g5 h.2,g6,g7,J0I hs g8⟩
theorem UmR.lent{n0:Nat}{m:RM}{u:U}{v:V}(hm:m.safe=true)(h:UmR n0 H F' m u v):UmR n0 H (fun i=>F i\/(n0<=i/\F' i)) m u v:=by
 cases m with
 |sc=>exact⟨h.1,z1b h.1 h.2⟩
 |va=>cases hm
 |sl=>cases hm
 |sls=>
  obtain⟨s,rfl,h1,h2⟩:=h
  refine⟨s,rfl,h1,h2.imp id fun⟨g1,i,p,cs,g2,g3,g4,g5,g6,g7⟩=>⟨g1,i,p,cs,g2,g3, .inr ⟨g3,g4⟩,g5,g6,J0I h1 g7⟩⟩
theorem UmRs.lent{n0:Nat}: ∀{ms:List RM} {us:List U} {vs:List V},ms.all RM.safe=true->UmRs n0 H F' ms us vs->UmRs n0 H (fun i=>F i\/(n0<=i/\F' i)) ms us vs
 | [],[],vs,_,h=>h
 |m::ms,u::us,vs,hm,⟨v,vs',h1,h2,h3⟩=>by
  simp only[List.all_cons,bA]at hm
  exact⟨v,vs',h1,h2.lent hm.1,UmRs.lent hm.2 h3⟩
 | [],u::us,vs,_,h=>h.elim
 |m::ms,[],vs,_,h=>h.elim
theorem RzR.lent{n0:Nat}{ms:List RM}{r:Rz}{v:V}(hF: ∀i,F i->i<n0)(hm:ms.all RM.safe=true)(h:RzR n0 H F' ms r v):RzR n0 H (fun i=>F i\/(n0<=i/\F' i)) ms r v:=by
 unfold RzR at h⊢
 split at h
 ·rename_i m
  simp only[List.all_cons,List.all_nil,Bool.and_true]at hm
  cases m<;>cases r<;>first |exact h.elim |skip
  ·exact⟨h.1,z1b h.1 h.2⟩
  ·cases hm
  ·cases hm
  ·exact⟨h.1.lent hF h.2,h.2⟩
 ·rename_i hn
  split at h
  ·obtain⟨vs,h1,h2⟩:=h;exact⟨vs,h1,h2.lent hm⟩
  ·exact h.elim
end
section
variable{lim:Nat}{vcall:CallT}{md:FuncId->List RM}{ycall:YCallT}{b0:Nat}{F:Nat->Prop}{κ:Nat->C}{z:Z}{e:Env}{H:Heap}{A:Type}{K:Y->Z->Option A}{r:A}
structure Did (F:Nat->Prop) (H:Heap) (F':Nat->Prop) (H':Heap):Prop where
 next:H.next<=H'.next
 same: ∀i,i<H.next->H'.get i=H.get i
 sub: ∀i,F i->F' i
 from_: ∀i,F' i->F i\/H.next<=i
 flt: ∀i,F' i->i<H'.next
section
variable{F':Nat->Prop}{H':Heap}
theorem Did.le(D:Did F H F' H')(R:SR b0 F κ z e H):FLe H F H' F':=⟨D.sub,fun i hi=>D.same i (R.flt i hi)⟩
theorem Did.sr(D:Did F H F' H')(R:SR b0 F κ z e H):SR b0 F' κ z e H':=
 have hlt: ∀k i,Owns z.o κ k i->i<H.next:=fun k i h=>((R.ob k).id h.1 h.2).2.1
 R.grow (D.le R) D.next (fun k i h=>D.same i (hlt k i h)) D.flt fun k i h hf=>(D.from_ i hf).elim (R.disj k i h) fun h2=>by have:=hlt k i h;omega
theorem Did.adv(D:Did F H F' H')(R:SR b0 F κ z e H)(q:Prop):Adv b0 F H F' H' q:=
 ⟨D.next,fun i hi=>D.same i (nL hi R.low),D.le R,fun i hi=>(D.from_ i hi).imp id fun h=>nT R.low h,fun _=>D.same⟩
theorem Did.val(D:Did F H F' H')(R:SR b0 F κ z e H){o:ROp}{u:U}{v:V}(h: ∀{R2:Type} (K2:T->Heap->Option R2),evalOp lim vcall e H o K2=K2 (.val v) H')(hv:UV H' F' u v):Out lim vcall b0 F κ z e H o (.val u) z:=
 ⟨F',κ, .val v,H',h,D.sr R,⟨v,rfl,hv⟩,D.adv R _,nR _,rfl,fun _ _ _ h=>h,(fun _ h=>by cases h),fun _ _ h=> .inl h,fun i hi=> .inl (D.same i hi)⟩
theorem Did.tup(D:Did F H F' H')(R:SR b0 F κ z e H){o:ROp}{us:List U}{vs:List V}(h: ∀{R2:Type} (K2:T->Heap->Option R2),evalOp lim vcall e H o K2=K2 (.val (.tuple vs)) H')(hv:UVs H' F' us vs):Out lim vcall b0 F κ z e H o (.tup us) z:=
 ⟨F',κ, .val (.tuple vs),H',h,D.sr R,⟨vs,rfl,hv⟩,D.adv R _,nR _,rfl,fun _ _ _ h=>h,(fun _ h=>by cases h),fun _ _ h=> .inl h,fun i hi=> .inl (D.same i hi)⟩
theorem Did.sl(D:Did F H F' H')(R:SR b0 F κ z e H){o:ROp}{s:Sx}{v:V}(h: ∀{R2:Type} (K2:T->Heap->Option R2),evalOp lim vcall e H o K2=K2 (.val v) H')(hv:SlR H.next H' F' s v)(hk:z.new (.sl s) K=some r): ∃y z',K y z'=some r/\Out lim vcall b0 F κ z e H o y z':=by
 obtain⟨hz,hk⟩:=w0y hk
 obtain⟨c,rfl,hob,hid⟩: ∃c,v= .c c/\ObR H' F' (nameK κ z.n c) (nameO z.o z.n (.sl s)) b0 z.n (.sl s)/\((Ob.sl s).live=true-> ∀i,idC c=some i->H.next<=i/\ ¬F' i):=by
  rcases hv with⟨g1,g2,rfl⟩ |⟨g1,i,p,cs,rfl,g3,g4,g5,g6,g7,g8⟩
  ·exact⟨_,rfl, .inl ⟨g1,g2,q0k _ _ _⟩,fun hl=>by simp only[Ob.live,g1]at hl;cases hl⟩
  ·exact⟨_,rfl, .inr ⟨g1,i,p,cs,q0k _ _ _,nT R.low g3,g4,g6,g7,g8⟩,fun _ j hj=>by cases hj;exact⟨g3,g5⟩⟩
 have R':=R.new hz (D.le R) D.from_ D.flt D.next D.same hob hid (fun _ _ _ h=>h)
 refine⟨_,_,hk,F',_,_,H',h,R', .inr (by rw[q0k]),D.adv R _,Nat.le_succ _,rfl,fun k h1 h2 h3=> ?_,(fun _ h=>by cases h),fun k i hki=> ?_,fun i hi=> .inl (D.same i hi)⟩
 ·have h3:z.n=k:=h3
  simp only at h1
  omega
 ·rcases w0x hki with⟨_,g1,g2⟩ |⟨_,g⟩
  ·exact .inr (hid g1 i g2).1
  ·exact .inl g
end
theorem Y0t{kd:KD}(h:kd.plain=true){c:C}{R2:Type}(K2:V->Option R2):kd.take (.c c) K2=K2 (.c c):=by
 cases kd with
 |any=>rfl
 |one k=>cases k<;>first |rfl |cases h
 |agg ks=>cases h
theorem SlR.c{n0:Nat}{s:Sx}{v:V}(h:SlR n0 H F s v): ∃c,v= .c c:=by
 rcases h with⟨_,_,h⟩ |⟨_,i,p,cs,h,_⟩<;>exact⟨_,h⟩
theorem Z0N{F':Nat->Prop}{H':Heap}(D:Did F H F' H')(R:SR b0 F κ z e H){o:ROp}{kd:KD}{v:V}{f:FuncId}{rz:Rz}(hev: ∀{R2:Type} (K2:T->Heap->Option R2),evalOp lim vcall e H o K2=kd.take v fun w=>K2 (.val w) H')(hr:RzR H.next H' F' (md f) rz v)
  (h:(match md f with
   | [.sl] | [.sls]=>if kd.plain=true then rz.asSl.bind fun s=>z.new (.sl s) K else none
   | [_]=>rz.toU.bind fun u=>u.take kd fun v=>K (.val v) z
   |_=>if kd.isAny=true then rz.asTup.bind fun us=>K (.tup us) z else none)=some r): ∃y z',K y z'=some r/\Out lim vcall b0 F κ z e H o y z':=by
 have isl: ∀{s:Sx},SlR H.next H' F' s v->(if kd.plain=true then z.new (.sl s) K else none)=some r-> ∃y z',K y z'=some r/\Out lim vcall b0 F κ z e H o y z':=by
  intro s hs h
  split at h
  ·rename_i hp
   obtain⟨c,rfl⟩:=hs.c
   exact D.sl R (fun K2=>by rw[hev,Y0t hp]) hs h
  ·cases h
 have ival: ∀{u:U},UV H' F' u v->(u.take kd fun v=>K (.val v) z)=some r-> ∃y z',K y z'=some r/\Out lim vcall b0 F κ z e H o y z':=by
  intro u hu h
  obtain⟨w,w',h1,h2,h3⟩:=w0a hu h
  exact⟨_,z,h1,D.val R (fun K2=>by rw[hev,h2]) h3⟩
 have ins: ∀{x:Rz} {b:Bool},(if b=true then x.asSl.bind fun s=>z.new (.sl s) K else none)=some r-> ∃s,x= .sl s/\(if b=true then z.new (.sl s) K else none)=some r:=by
  intro x b h
  split at h
  ·rename_i hb
   obtain⟨s,hs,h⟩:=oB.1 h
   cases x<;>simp[Rz.asSl]at hs
   subst hs
   exact⟨_,rfl,by rw[if_pos hb];exact h⟩
  ·cases h
 split at h
 ·rename_i hm
  obtain⟨s,rfl,h⟩:=ins h
  rw[hm]at hr
  exact isl hr h
 ·rename_i hm
  obtain⟨s,rfl,h⟩:=ins h
  rw[hm]at hr
  exact isl hr.1 h
 ·rename_i m h1 h2 hm
  rw[hm]at hr
  obtain⟨u,hu,h⟩:=oB.1 h
  cases m with
  |sl=>exact absurd rfl h1
  |sls=>exact absurd rfl h2
  |sc=>cases rz<;>first |exact hr.elim |(cases hu;exact ival hr.2 h)
  |va=>cases rz<;>first |exact hr.elim |(cases hu;exact ival hr h)
 ·rename_i h1 h2 h3
  have h30: ∀m,md f≠[m]:=fun m hm=>h3 m hm
  split at h
  ·rename_i ha
   obtain⟨us,hus,h⟩:=oB.1 h
   have hrt:rz= .tup us:=by cases rz<;>simp[Rz.asTup]at hus;rw[hus]
   subst hrt
   have hkd:kd= .any:=by cases kd<;>first |rfl |cases ha
   subst hkd
   have: ∃vs,v= .tuple vs/\UmRs H.next H' F' (md f) us vs:=by
    unfold RzR at hr
    split at hr
    ·rename_i m hm;exact absurd hm (h30 m)
    ·exact hr
   obtain⟨vs,rfl,g2⟩:=this
   exact⟨_,z,h,D.tup R (fun K2=>by rw[hev];rfl) g2.uvs⟩
  ·cases h
theorem Y0u(hlim:lim<=b0)(C0:CallsOK lim vcall md ycall)(R:SR b0 F κ z e H){f:FuncId}{kd:KD}{args:List X}(h:evalY md ycall z (.call f kd args) K=some r): ∃y z',K y z'=some r/\Out lim vcall b0 F κ z e H (.call f kd args) y z':=by
 simp only[evalY]at h
 obtain⟨⟨us,z1⟩,hq,h9⟩:=oB.1 h
 clear h
 obtain⟨rz,hrz,h⟩:=oB.1 h9
 clear h9
 simp only at hrz h
 split at hq
 ·rename_i hsafe
  simp only[oM,Prod.mk.injEq]at hq
  obtain⟨us',hus,rfl,rfl⟩:=hq
  obtain⟨vs,g1,g2⟩:=R.yls hus
  have hFO: ∀i,FO F z.o κ i->i<H.next:=fun i hi=>hi.elim (R.flt i) fun⟨k,hk⟩=>((R.ob k).id hk.1 hk.2).2.1
  obtain⟨v,H',F',c1,c2,c3,c4,c5,c6,c7⟩:=C0 f us' rz hrz H _ vs (nT hlim R.low) hFO g2
  have D:Did F H (fun i=>F i\/(H.next<=i/\F' i)) H':=⟨c2,c3,fun i hi=> .inl hi,fun i hi=>hi.imp id fun h=>h.1,fun i hi=>hi.elim (fun h=>nL (R.flt i h) c2) fun h=>c6 i h.2⟩
  exact Z0N D R (kd:=kd) (v:=v) (f:=f) (fun K2=>by simp only[evalOp,g1,oS,c1]) (c7.lent R.flt hsafe) h
 ·obtain⟨vs,F1,g1,g2,g3⟩:=R.yfs hq
  obtain⟨v,H',F',c1,c2,c3,c4,c5,c6,c7⟩:=C0 f us rz hrz H _ vs (nT hlim R.low) g2.sr.flt g3
  have D:Did F1 H F' H':=⟨c2,c3,c4,c5,c6⟩
  obtain⟨y,z',k1,k2⟩:=Z0N (lim:=lim) (vcall:=vcall) D g2.sr (o:= .call f kd args) (kd:=kd) (v:=v) (f:=f) (fun K2=>by simp only[evalOp,g1,oS,c1]) c7 h
  exact⟨y,z',k1, .after R g2 k2⟩
theorem SlR.fz{n0:Nat}{H:Heap}{F:Nat->Prop}{s:Sx}{v:V}(h:SlR n0 H F s v): ∃F':Nat->Prop,(∀i,F i->F' i)/\(∀i,F' i->F i\/(n0<=i/\i<H.next))/\UV H F' s.fz v:=by
 rcases h with⟨g1,g2,rfl⟩ |⟨g1,i,p,cs,rfl,g3,g4,g5,g6,g7,g8⟩
 ·exact⟨F,fun _ h=>h,fun _ h=> .inl h,rfl, .inl ⟨g1,g2,rfl⟩⟩
 ·exact⟨fun j=>F j\/j=i,fun _ h=> .inl h,fun j hj=>hj.imp id fun h=>by subst h;exact⟨g3,g4⟩,rfl, .inr ⟨g1,i,p,cs,s.sz,rfl, .inr rfl,g6,g7,g8.mono ⟨fun _ h=> .inl h,fun _ _=>rfl⟩⟩⟩
theorem RzR.toU{n0:Nat}{H:Heap}{F:Nat->Prop}{ms:List RM}{rz:Rz}{v:V}{u:U}(h:RzR n0 H F ms rz v)(hu:rz.toU=some u): ∃F':Nat->Prop,(∀i,F i->F' i)/\(∀i,F' i->F i\/(n0<=i/\i<H.next))/\UV H F' u v:=by
 have same:UV H F u v-> ∃F':Nat->Prop,(∀i,F i->F' i)/\(∀i,F' i->F i\/(n0<=i/\i<H.next))/\UV H F' u v:=fun h=>⟨F,fun _ h=>h,fun _ h=> .inl h,h⟩
 unfold RzR at h
 split at h
 ·rename_i m
  cases m<;>cases rz<;>first |exact h.elim |(cases hu;exact same h.2) |(cases hu;exact same h) |(cases hu;exact h.fz) |(cases hu;exact h.1.fz)
 ·cases rz<;>first |exact h.elim |cases hu
theorem K0z(hlim:lim<=b0)(C0:CallsOK lim vcall md ycall)(R:SR b0 F κ z e H){x:X}{kd:KD}{args:List X}(h:evalY md ycall z (.callV x kd args) K=some r): ∃y z',K y z'=some r/\Out lim vcall b0 F κ z e H (.callV x kd args) y z':=by
 simp only[evalY]at h
 obtain⟨u,hu,h⟩:=oB.1 h
 obtain⟨g,hg,h⟩:=oB.1 h
 obtain⟨⟨us,z1⟩,hq,h⟩:=oB.1 h
 obtain⟨rz,hrz,h⟩:=oB.1 h
 obtain⟨w,hw,h9⟩:=oB.1 h
 clear h
 simp only at hrz h9
 obtain⟨ff,fa,fb,rfl,rfl⟩: ∃ff fa fb,u= .fn ff fa fb/\g=(ff,fa,fb):=by
  cases u<;>simp[U.asF]at hg
  exact⟨_,_,_,rfl,hg.symm⟩
 simp only at hrz
 have hfn: ∃v,ev e x=some v/\UV H F (.fn ff fa fb) v:=by
  cases x with
  |f g=>exact k0H (by simp) hu
  |c v=>exact k0H (by simp) hu
  |t p=>
   have hs:=R.sl p
   have hu':=hu
   simp only[Vm.yl]at hu'
   split at hu'
   ·rename_i u hp;rw[hp]at hs;cases hu';obtain⟨v,h1,h2⟩:=hs;exact⟨v,by simp[ev,h1],h2⟩
   ·simp at hu'
   ·rename_i k hp
    rw[hp]at hs
    have hob:=R.ob k
    simp only[Z.lk,Z.look]at hu'
    split at hu'
    ·simp[Sx.fz]at hu'
    ·cases hu'
    ·rename_i w hk
     cases hu'
     rw[hk]at hob
     exact⟨.c (κ k),by simp[ev,hs.resolve_left (by rw[hk];simp[Ob.isNone])],hob⟩
    ·simp at hu'
    ·cases hu'
   ·split at hu'<;>simp[Sx.fz]at hu'
   ·split at hu'<;>cases hu'
   ·cases hu'
 obtain⟨v0,f1,f2⟩:=hfn
 cases v0 with
 |tuple vs=>exact f2.elim
 |agg xs=>obtain⟨us,h,_⟩:=f2;cases h
 |c c0=>
  obtain⟨a',b',f3,f4,f5⟩:=f2.2
  simp at f3;subst f3
  obtain⟨vs,F1,g1,g2,g3⟩:=R.yfs hq
  obtain⟨v,H',F',c1,c2,c3,c4,c5,c6,c7⟩:=C0 _ _ rz hrz H F1 (a'.map .c++vs++b'.map .c) (nT hlim R.low) g2.sr.flt (((f4.mono g2.le).uvs.append g3).append (f5.mono g2.le).uvs)
  obtain⟨F2,d1,d2,d3⟩:=c7.toU hw
  have D:Did F1 H F2 H':=⟨c2,c3,fun i hi=>d1 i (c4 i hi),fun i hi=>(d2 i hi).elim (c5 i) fun h=> .inr h.1,fun i hi=>(d2 i hi).elim (c6 i) fun h=>h.2⟩
  obtain⟨w1,w2,k1,k2,k3⟩:=w0a d3 h9
  exact⟨_,z1,k1, .after R g2 (D.val g2.sr (fun K2=>by simp only[evalOp,evC,f1,V.asC,C.asF,oS,g1,c1,k2]) k3)⟩
end
theorem Q0O{A:Type}{z:Z}{x:X}{Kl Ko:Nat->Nat->Option A}{Ke:Nat->Nat->Nat->Option A}{Kf:U->Nat->Option A}{nm:Option Nat}(hn:nameOf z x=nm):
  yptr z x Kl Ko Ke Kf=yptr z x Kl (fun k c=>if nm=some k then Ko k c else none) (fun k j c=>if nm=some k then Ke k j c else none) Kf:=by
 cases x with
 |c v=>rfl
 |f g=>rfl
 |t p=>
  simp only[nameOf]at hn
  simp only[yptr]
  cases hp:z.s p with
  |h k=>rw[hp]at hn;simp only at hn;subst hn;simp only[iT]
  |oaddr k c=>rw[hp]at hn;simp only at hn;subst hn;simp only[iT]
  |eaddr k j c=>rw[hp]at hn;simp only at hn;subst hn;simp only[iT]
  |_=>rfl
theorem k0J: ∀{ys cs:List C} {p q m:Nat},((splice cs (p+q) ys).drop p).take m=splice ((cs.drop p).take m) q ys
 | [],cs,p,q,m=>rfl
 |y::ys,cs,p,q,m=>by
  rw[splice,splice,Nat.add_assoc,k0J]
  congr 1
  rw[List.drop_set,if_neg (by omega),List.take_set]
  congr 2;omega
theorem Y0v{w:List C}{q sz c:Nat}{x:C}(hc:c<sz)(h:q+sz<=w.length):w.set (q+c) x=w.take q++((w.drop q).take sz).set c x++w.drop (q+sz):=by
 refine List.ext_getElem? fun i=> ?_
 have hl1:(w.take q).length=q:=by simp;omega
 have hl2:(((w.drop q).take sz).set c x).length=sz:=by simp;omega
 rw[List.append_assoc]
 by_cases h1:i<q
 ·rw[List.getElem?_append_left (by omega),List.getElem?_set_ne (by omega),List.getElem?_take,if_pos h1]
 ·rw[List.getElem?_append_right (by omega),hl1]
  by_cases h2:i<q+sz
  ·rw[List.getElem?_append_left (by omega)]
   by_cases h3:i=q+c
   ·subst h3
    rw[List.getElem?_set_self (by omega),Nat.add_sub_cancel_left,List.getElem?_set_self (by simp;omega)]
   ·rw[List.getElem?_set_ne (by omega),List.getElem?_set_ne (by omega),List.getElem?_take,if_pos (by omega),List.getElem?_drop]
    congr 1;omega
  ·rw[List.getElem?_append_right (by omega),hl2,List.getElem?_set_ne (by omega),List.getElem?_drop]
   congr 1;omega
section
variable{b0:Nat}{F F':Nat->Prop}{κ:Nat->C}{z:Z}{e:Env}{H H':Heap}
theorem X0D{v u v':U}{c:Nat}{x:C}{xs:List C}(hv:UC H F v xs)(hs:u.isSt=false)(hu:UC H F u [x])(h:v.setc c u=some v'):c<xs.length/\UC H F v' (xs.set c x):=by
 have one:v.isSt=false->v.setc c u=(if c=0 then some u else none)->c<xs.length/\UC H F v' (xs.set c x):=by
  intro hst he
  rw[he]at h
  split at h
  ·rename_i h0
   cases h
   subst h0
   have hl:=hv.len
   have:v.size=1:=by cases v<;>first |rfl |cases hst
   match xs,hl with
   | [y],_=>exact⟨by simp,by simpa using hu⟩
   | [],hl=>rw[this]at hl;simp at hl
   |_::_::_,hl=>rw[this]at hl;simp at hl
  ·cases h
 cases v with
 |st us=>
  simp only[U.setc]at h
  split at h
  ·rename_i hc
   cases h
   exact⟨by rw[<-UCs.length hv];exact hc,UCs.set hv hs hu⟩
  ·cases h
 |_=>exact one rfl rfl
theorem z0R{H:Heap}{i j:Nat}{o:Obj}(h:j≠i):(H.put i o).get j=H.get j:=by simp[Heap.put,h]
theorem j0M{H:Heap}{i:Nat}{o:Obj}:(H.put i o).get i=some o:=by simp[Heap.put]
theorem SR.write(R:SR b0 F κ z e H){k i:Nat}{b:Ob}{o:Obj}(hl:(z.o k).live=true)(hi:idC (κ k)=some i)(hc:Compat (z.o k) b)(hob:FLe H F (H.put i o) F->ObR (H.put i o) F κ (z.setO k b).o b0 k b)(hfr: ∀j,z.n<=j->j<base-> ¬b.refs j):SR b0 F κ (z.setO k b) e (H.put i o)/\FLe H F (H.put i o) F:=by
 have hown:Owns z.o κ k i:=⟨hl,hi⟩
 have m:FLe H F (H.put i o) F:=⟨fun _ h=>h,fun j hj=>z0R fun h=>R.disj k i hown (h▸hj)⟩
 exact⟨R.repl (fun h=>by rw[h]at hl;cases hl) m (nR _) hc (hob m) (fun j i' hj hi'=>z0R fun h=>hj (R.inj j k i' hi' (h▸hown))) (fun _=>hl) (fun i hi=> .inl hi) hfr,m⟩
end
section
variable{b0:Nat}{F:Nat->Prop}{κ:Nat->C}{z:Z}{e:Env}{H:Heap}
theorem w0A{e:Env}{q r:Nat}{t:T}(hq:q<e.length):Env.get (e.set q t) r=if r=q then t else e.get r:=by
 simp only[Env.get,lG,List.getElem?_set]
 by_cases h:q=r
 ·subst h;simp[hq]
 ·rw[if_neg h,if_neg (fun h'=>h h'.symm)]
theorem w1J{e:Env}{q:Nat}{xs:List C}(h:e.get q= .loc xs):q<e.length:=by
 by_cases hq:q<e.length
 ·exact hq
 ·simp only[Env.get,lG,List.getElem?_eq_none (Nat.le_of_not_lt hq)]at h;cases h
theorem SR.setL(R:SR b0 F κ z e H){q:Nat}{cs cs0:List Oc}{xs xs0:List C}(hq:z.s q= .loc cs0)(he:e.get q= .loc xs0)(hr:OcsR H F κ z.o cs xs)(hfr: ∀k,z.n<=k->k<base-> ∀c∈cs,¬c.refs k):SR b0 F κ (z.put q (.loc cs)) (e.set q (.loc xs)) H:=by
 refine⟨fun p=> ?_,R.ob,R.inj,R.disj,R.flt,R.low,fun k h1 h2 p=> ?_,R.fo⟩
 ·rw[w0A (w1J he)]
  by_cases hp:p=q
  ·subst hp;rw[w0m,if_pos rfl,if_pos rfl];exact⟨xs,rfl,hr⟩
  ·rw[w0m,if_neg hp,if_neg hp]
   refine(R.sl p).mono (.refl _ _) (fun k _=>⟨rfl,Compat.refl _⟩) fun q' c' _ cs' h=> ?_
   rw[w0m]at h
   split at h
   ·rename_i h';subst h';exact⟨cs0,hq⟩
   ·exact⟨cs',h⟩
 ·rw[w0m]
  split
  ·exact fun⟨c,hc,hr⟩=>hfr k h1 h2 c hc hr
  ·exact R.fs k h1 h2 p
theorem K1T{lim i o sz:Nat}{cs xs:List C}(hg:H.get i=some (.cells sz cs))(hl:lim<=i)(h:o+xs.length<=cs.length):H.st lim i o xs=some (H.put i (.cells sz (splice cs o xs))):=by
 simp only[Heap.st,hg];rw[if_pos ⟨hl,h⟩]
structure Wrote (lim b0:Nat) (F:Nat->Prop) (κ:Nat->C) (z:Z) (e:Env) (H:Heap) (a:X) (xs:List C) (F':Nat->Prop) (z':Z) (i o:Nat) (H':Heap):Prop where
 at_: ∀{R2:Type} (Kl' Ko':Nat->Nat->Option R2),placeK e a Kl' Ko'=Ko' i o
 st:H.st lim i o xs=some H'
 sr:SR b0 F' κ z' e H'
 adv:Adv b0 F H F' H' False
 n:z'.n=z.n
 s:z'.s=z.s
 name: ∃k,nameOf z a=some k/\Owns z.o κ k i
 own: ∀k i,Owns z'.o κ k i->Owns z.o κ k i
 else_: ∀j,j≠i->H'.get j=H.get j
structure WroteL (b0:Nat) (F:Nat->Prop) (κ:Nat->C) (z:Z) (e:Env) (H:Heap) (a:X) (xs:List C) (F':Nat->Prop) (z':Z) (q c:Nat) (xs0:List C):Prop where
 at_: ∀{R2:Type} (Kl' Ko':Nat->Nat->Option R2),placeK e a Kl' Ko'=Kl' q c
 get:e.get q= .loc xs0
 le:c+xs.length<=xs0.length
 sr:SR b0 F' κ z' (e.set q (.loc (splice xs0 c xs))) H
 adv:Adv b0 F H F' H True
 n:z'.n=z.n
 own: ∀k i,Owns z'.o κ k i->Owns z.o κ k i
theorem Fzd.wrote{lim:Nat}{F1 F':Nat->Prop}{z1 z':Z}{a:X}{xs:List C}{i o:Nat}{H':Heap}(h:Fzd b0 κ e H F z F1 z1)(R:SR b0 F κ z e H)(w:Wrote lim b0 F1 κ z1 e H a xs F' z' i o H'):Wrote lim b0 F κ z e H a xs F' z' i o H':=
 ⟨w.at_,w.st,w.sr,(h.adv R False).trans w.adv,w.n.trans h.n,w.s.trans h.s,by
  obtain⟨k,h1,h2⟩:=w.name
  refine⟨k, ?_,h.own k i h2⟩
  rw[<-h1];simp only[nameOf,h.s],fun k i hk=>h.own k i (w.own k i hk),w.else_⟩
theorem SR.wrote(R:SR b0 F κ z e H){lim:Nat}(hlim:lim<=b0){a:X}{k i o sz:Nat}{b:Ob}{cs xs:List C}(hn:nameOf z a=some k)(hp: ∀{R2:Type} (Kl' Ko':Nat->Nat->Option R2),placeK e a Kl' Ko'=Ko' i o)(hl:(z.o k).live=true)(hi:idC (κ k)=some i)(hb:b0<=i)(hg:H.get i=some (.cells sz cs))(hle:o+xs.length<=cs.length)(hc:Compat (z.o k) b)
  (hob:FLe H F (H.put i (.cells sz (splice cs o xs))) F->ObR (H.put i (.cells sz (splice cs o xs))) F κ (z.setO k b).o b0 k b) (hfr: ∀j,z.n<=j->j<base-> ¬b.refs j):Wrote lim b0 F κ z e H a xs F (z.setO k b) i o (H.put i (.cells sz (splice cs o xs))):=by
 obtain⟨h1,h2⟩:=R.write hl hi hc hob hfr
 refine⟨hp,K1T hg (nT hlim hb) hle,h1,⟨nR _,fun j hj=>z0R (by omega),h2,fun _ h=> .inl h,fun h=>h.elim⟩,rfl,rfl,⟨k,hn,hl,hi⟩,fun j i' hj=> ?_,fun j hj=>z0R hj⟩
 by_cases hjk:j=k
 ·subst hjk;exact⟨hl,hj.2⟩
 ·rw[Owns,j0f z _ hjk]at hj;exact hj
theorem K1h{s s':Sx}{n j c:Nat}{u:U}(h:s.put n j c u=some s'):s'.b=s.b/\s'.sz=s.sz/\s'.es.length=s.es.length/\j<s.es.length:=by
 unfold Sx.put at h
 split at h
 ·split at h
  ·rename_i h1;cases h;exact⟨rfl,rfl,by simp,h1.2⟩
  ·cases h
 ·split at h
  ·obtain⟨v,hv,h⟩:=oB.1 h
   simp only[oM]at h
   obtain⟨v',_,rfl⟩:=h
   exact⟨rfl,rfl,by simp,(gE.1 hv).1⟩
  ·cases h
theorem K1i{s s':Sx}{n j c:Nat}{u:U}{w xs:List C}(h:s.put n j c u=some s')(he:EsR H F s.es s.sz w)(hu:UC H F u xs)(hn:xs.length=n):EsR H F s'.es s.sz (splice w (j*s.sz+c) xs)/\j*s.sz+c+n<=w.length:=by
 have hl:=he.length
 unfold Sx.put at h
 split at h
 ·rename_i hc
  split at h
  ·rename_i h1
   cases h
   obtain⟨rfl,rfl⟩:=hc
   have hle:(j+1)*s.sz<=s.es.length*s.sz:=Nat.mul_le_mul_right _ h1.2
   rw[Nat.add_mul,Nat.one_mul]at hle
   have:=he.set hu hn h1.2
   rw[Nat.add_mul,Nat.one_mul]at this
   rw[Nat.add_zero,z0C (by rw[hn];omega),hn]
   exact⟨this,by omega⟩
  ·cases h
 ·split at h
  ·rename_i h1
   obtain⟨rfl,hst⟩:=h1
   obtain⟨v,hv,h⟩:=oB.1 h
   simp only[oM]at h
   obtain⟨v',hv',rfl⟩:=h
   obtain⟨g1,g2⟩:=he.get hv
   have hj:=(gE.1 hv).1
   match xs,hn with
   | [x],_=>
    rw[Nat.add_mul,Nat.one_mul]at g2
    have hlw:((w.drop (j*s.sz)).take s.sz).length=s.sz:=by simp;omega
    obtain⟨k1,k2⟩:=X0D g1 hst hu hv'
    rw[hlw]at k1
    have:=he.set k2 (by simp;omega) hj
    rw[Nat.add_mul,Nat.one_mul]at this
    refine⟨?_,by omega⟩
    show EsR H F _ s.sz (w.set (j*s.sz+c) x)
    rw[Y0v k1 (by omega)];exact this
   | [],hn=>simp at hn
   |_::_::_,hn=>simp at hn
  ·cases h
end
section
variable{lim:Nat}{b0:Nat}{F:Nat->Prop}{κ:Nat->C}{z:Z}{e:Env}{H:Heap}{A:Type}
theorem UCs.join{H:Heap}{F:Nat->Prop}{us:List U}{xs:List C}(h:UCs H F us xs):UC H F (joinU us) xs:=by
 unfold joinU
 split
 ·rename_i u
  obtain⟨c,cs,rfl,h2,h3,h4⟩:=h
  rw[show cs=[]from h4];exact h3
 ·exact h
theorem Z0O(hlim:lim<=b0)(R:SR b0 F κ z e H){hp:Option Nat}{n:Nat}{a x:X}{K:Z->Option A}{r:A}(h:yst z hp n a x K=some r):
  ∃z' F' v xs,K z'=some r/\ev e x=some v/\v.cells=some xs/\xs.length=n/\((hp=none/\ ∃i o H',Wrote lim b0 F κ z e H a xs F' z' i o H')\/(∃q c xs0,hp=some q/\WroteL b0 F κ z e H a xs F' z' q c xs0)):=by
 unfold yst at h
 split at h
 ·rename_i hbig
  obtain⟨⟨u,z1⟩,hu,h⟩:=oB.1 h
  obtain⟨v,F1,e1,hz1,hv⟩:=R.yf hu
  simp only at h
  rw[Q0O rfl]at h
  rcases hz1.sr.yptr h with⟨q,c,cs,xs,h1,_⟩ |⟨k,c,i,h1,h2,h3,h4⟩ |⟨k,j,c,s,i,p,m,h1,_⟩ |⟨v,o,i,q,zz,cs,n,h1,_⟩
  ·cases h1
  ·split at h1
   ·rename_i hnm
    split at h1
    ·rename_i w hk
     split at h1
     ·rename_i hc
      obtain⟨_,rfl⟩:=hc
      split at h1
      ·rename_i hsz
       have hob:=hz1.sr.ob k
       rw[hk]at hob
       obtain⟨i',zz,ys,g1,g2,g3,g4,g5⟩:=hob
       rw[h3]at g1;cases g1
       obtain⟨xs,k1,k2⟩:=hv.cells
       have hxs:xs.length=n:=by rw[<-k2.len];exact hsz.2
       have hys:ys.length=n:=by rw[<-g5.len];exact hsz.1
       have hsp:splice ys 0 xs=xs:=by rw[z0C (by omega)];simp[hxs,<-hys]
       refine⟨_,F1,v,xs,h1,e1,k1,hxs, .inl ⟨hbig.2,i,0,_,hz1.wrote R (hz1.sr.wrote hlim hnm h4 (by rw[hk];rfl) (by rw[h3];rfl) g2 g4 (by omega) (by rw[hk];trivial) (fun m=>⟨i,zz,_,h3,g2,g3,j0M,by have:=k2.mono m;rw[hsp]at this⊢;exact this⟩) (fun _ _ _ h=>h))⟩⟩
      ·cases h1
     ·cases h1
    ·cases h1
   ·cases h1
  ·split at h1<;>cases h1
  ·cases h1
 ·obtain⟨ds,z1,F1,v,xs,h1,e1,e2,hz1,hds,hfr⟩:=R.ypart h
  simp only at h1
  split at h1
  ·cases h1
  ·rename_i hl
   have hl:ds.length=n:=Classical.not_not.1 hl
   have hxs:xs.length=n:=by rw[<-hds.length];exact hl
   rw[Q0O rfl]at h1
   rcases hz1.sr.yptr h1 with⟨q,c,cs,ys,h1,h2,h3,h4,h5⟩ |⟨k,c,i,h1,h2,h3,h4⟩ |⟨k,j,c,s,i,p,m,h1,h2,h3,h4,h5,h6⟩ |⟨v,o,i,q,zz,cs,n,h1,_⟩
   ·rw[h2]at h1
    simp only at h1
    split at h1
    ·rename_i hc
     have hle:c+xs.length<=ys.length:=by rw[hxs,<-h4.length];exact hc.2
     refine⟨_,F1,v,xs,h1,e1,e2,hxs, .inr ⟨q,c,ys,hc.1,h5,h3,hle,hz1.sr.setL h2 h3 (h4.splice hds) fun k k1 k2 d hd=> ?_,hz1.adv R True,hz1.n,hz1.own⟩⟩
     rcases z0o hd with hd |hd
     ·exact fun hr=>hz1.sr.slotRefs h2 k1 k2 ⟨d,hd,hr⟩
     ·exact hfr k (by rw[<-hz1.n];exact k1) k2 d hd
    ·cases h1
   ·split at h1
    ·rename_i hnm
     have hob:=hz1.sr.ob k
     split at h1
     ·rename_i cs hk
      split at h1
      ·rename_i hc
       rw[hk]at hob
       obtain⟨i',zz,ys,g1,g2,g3,g4,g5⟩:=hob
       rw[h3]at g1;cases g1
       have hcmp: ∀j,Compat (z1.o j) ((z1.setO k (.ob (spliceO cs c ds))).o j):=fun j=>by
        by_cases hj:j=k
        ·subst hj;rw[setO_same,hk];trivial
        ·rw[j0f z1 _ hj];exact Compat.refl _
       refine⟨_,F1,v,xs,h1,e1,e2,hxs, .inl ⟨hc.1,i,c,_,hz1.wrote R (hz1.sr.wrote hlim hnm h4 (by rw[hk];rfl) (by rw[h3];rfl) g2 g4 (by rw[hxs,<-g5.length];exact hc.2) (by rw[hk];trivial)
        (fun m=>⟨i,zz,_,h3,g2,g3,j0M,(g5.splice hds).mono m fun j _=>⟨rfl,hcmp j⟩⟩) fun j k1 k2 ⟨d,hd,hr⟩=> ?_)⟩⟩
       rcases z0o hd with hd |hd
       ·exact(hz1.sr.fo j k1 k2).1 k (by rw[hk];exact⟨d,hd,hr⟩)
       ·exact hfr j (by rw[<-hz1.n];exact k1) k2 d hd hr
      ·cases h1
     ·rename_i w hk
      split at h1
      ·rename_i u
       split at h1
       ·rename_i hc
        obtain⟨w',hw',h1⟩:=oB.1 h1
        rw[hk]at hob
        obtain⟨i',zz,ys,g1,g2,g3,g4,g5⟩:=hob
        rw[h3]at g1;cases g1
        obtain⟨x0,xs',rfl,k1,k2⟩:=hds
        have k2:xs'=[]:=k2
        subst k2
        obtain⟨j1,j2⟩:=X0D g5 k1.1 k1.2 hw'
        simp only[List.length_cons,List.length_nil]at hxs
        exact⟨_,F1,v,_,h1,e1,e2,by simpa using hxs, .inl ⟨hc,i,c,_,hz1.wrote R (hz1.sr.wrote hlim hnm h4 (by rw[hk];rfl) (by rw[h3];rfl) g2 g4 (by simp;omega) (by rw[hk];trivial) (fun m=>⟨i,zz,_,h3,g2,g3,j0M,j2.mono m⟩) (fun _ _ _ h=>h))⟩⟩
       ·cases h1
      ·cases h1
     ·cases h1
    ·cases h1
   ·split at h1
    ·rename_i hnm
     split at h1
     ·rename_i hc
      obtain⟨us,hus,h1⟩:=oB.1 h1
      obtain⟨z2,hz2,h1⟩:=oB.1 h1
      obtain⟨F2,q1,q2,_⟩:=hz1.sr.fzCells hz2
      have huc:=q2 us xs hus hds
      split at h1
      ·rename_i s2 hk2
       obtain⟨s3,hs3,h1⟩:=oB.1 h1
       have hcomp:=q1.comp k
       rw[h2,hk2]at hcomp
       obtain⟨c1,c2,c3⟩:=hcomp
       have hob:=q1.sr.ob k
       rw[hk2]at hob
       rcases hob with⟨g1,_⟩ |⟨gb,i',p',cs,g1,g2,g3,g4,g5,g6⟩
       ·rw[c1,h3]at g1;cases g1
       ·rw[h4]at g1;cases g1
        obtain⟨p1,p2,p3,p4⟩:=K1h hs3
        obtain⟨j1,j2⟩:=K1i hs3 g6 huc.join hxs
        have hwl:=g6.length
        have hat: ∀{R2:Type} (Kl' Ko':Nat->Nat->Option R2),placeK e a Kl' Ko'=Ko' i (p+(j*s2.sz+c)):=fun Kl' Ko'=>by rw[h6,c2,Nat.add_assoc]
        have hnm2:nameOf z2 a=some k:=by rw[<-hnm];simp only[nameOf,q1.s]
        rw[hwl]at j2
        refine⟨_,F2,v,xs,h1,e1,e2,hxs, .inl ⟨hc,i,_,_,(hz1.trans q1).wrote R (q1.sr.wrote hlim hnm2 hat (by rw[hk2];exact gb) (by rw[h4];rfl) g2 g4 (by rw[hxs];omega) (by rw[hk2];exact⟨p1,p2,p3⟩)
         (fun m=> .inr ⟨by rw[p1];exact gb,i,p,_,by rw[h4,p3],g2,g3,by rw[p2];exact j0M,by rw[q0G,p3,p2];exact g5,by rw[p3,p2,k0J];exact j1.mono m⟩) (fun _ _ _ h=>h))⟩⟩
      ·cases h1
     ·cases h1
    ·cases h1
   ·cases h1
theorem z1c(hlim:lim<=b0){vcall:CallT}{md:FuncId->List RM}{ycall:YCallT}(R:SR b0 F κ z e H){K:Y->Z->Option A}{r:A}{n:Nat}{a x:X}(h:evalY md ycall z (.stH n a x) K=some r): ∃y z',K y z'=some r/\Out lim vcall b0 F κ z e H (.stH n a x) y z':=by
 simp only[evalY]at h
 obtain⟨z',F',v,xs,h1,h2,h3,h4,h5⟩:=Z0O (lim:=lim) hlim R h
 rcases h5 with⟨_,i,o,H',w⟩ |⟨q,c,xs0,hq,_⟩
 ·refine⟨_,z',h1,F',κ, .poison,H',fun K2=> ?_,w.sr,trivial,w.adv.weak (fun h=>by cases h),by rw[w.n];exact nR _,w.s,fun _ _ _ h=>h,(fun _ h=>by cases h),fun k i hk=> .inl (w.own k i hk),fun j hj=> ?_⟩
  ·simp only[evalOp,h2,h3,oS,h4,ne_eq,not_true,iF]
   rw[w.at_,w.st];rfl
  ·by_cases hji:j=i
   ·subst hji;obtain⟨k,k1,k2⟩:=w.name;exact .inr ⟨k,k1,k2⟩
   ·exact .inl (w.else_ j hji)
 ·cases hq
theorem K0A(hlim:lim<=b0){vcall:CallT}{md:FuncId->List RM}{ycall:YCallT}(C0:CallsOK lim vcall md ycall)(R:SR b0 F κ z e H){K:Y->Z->Option A}{r:A}{o:ROp}(h:evalY md ycall z o K=some r): ∃y z',K y z'=some r/\Out lim vcall b0 F κ z e H o y z':=by
 cases o with
 |mov x=>
  by_cases hx:x= .c (.c .nilSlice)
  ·subst hx;exact Z0M R h
  ·exact j1U R h hx
 |box sz x=>exact j1V R h
 |new c=>exact j1W R h
 |build c ps=>exact K0w R h
 |lit sz len c ps=>exact j1X R h
 |ld kd a=>exact k1L R h
 |lds ks a=>exact j1H R h
 |ldN n a=>exact j1I R h
 |ldL s kd a=>exact j1J R h
 |ldsL s ks a=>exact Y0o R h
 |nilck x=>exact K0r R h
 |fld o a=>exact j1P R h
 |fldC o x=>exact Y0q R h
 |fldA o n x=>exact Y0r R h
 |idx sz x i=>exact j1K R h
 |idxA n sz a i=>exact Y0p R h
 |idxVC n kd x i=>exact K0u R h
 |idxVA n sz x i=>exact K0t R h
 |sub sz x lo hi=>exact j1T R h
 |app sz s x=>exact z1a hlim R h
 |mkS sz c n=>exact j1Y R h
 |mkF f cap=>exact j1S R h
 |call f kd args=>exact Y0u hlim C0 R h
 |callV x kd args=>exact K0z hlim C0 R h
 |ext kd x i=>exact j1Q R h
 |mkI t x=>exact j1R R h
 |stH n a x=>exact z1c hlim R h
 |ar op k x y=>exact q0l R trivial h
 |cmp op k x y=>exact q0l R trivial h
 |dv op k x y=>exact q0l R trivial h
 |bit op k x y=>exact q0l R trivial h
 |sh op k j x y=>exact q0l R trivial h
 |eqB ne x y=>exact q0l R trivial h
 |eqA ne ks x y=>exact q0l R trivial h
 |cmpS op x y=>exact q0l R trivial h
 |catS x y=>exact q0l R trivial h
 |eqN nk ne x=>exact q0l R trivial h
 |not x=>exact q0l R trivial h
 |neg k x=>exact q0l R trivial h
 |conv j k x=>exact q0l R trivial h
 |idxS x i=>exact q0l R trivial h
 |subS x lo hi=>exact q0l R trivial h
 |len x=>exact q0l R trivial h
 |lenS x=>exact q0l R trivial h
 |capN x=>exact q0l R trivial h
 |appZ sz c s n=>exact Y0s R h
 |mm mx k x y=>exact q0l R trivial h
 |_=>cases h
end
structure RfOK (F:Nat->Prop) (κ:Nat->C) (z:Z) (e:Env) (H:Heap) (f:Rf):Prop where
 sn:seen e H f.d f.p f.ag f.ks=true
 at_: ∃i o,e.get f.p= .val (.c (.ptr i o))/\i<H.next/\(match f.ob with
  |none=>F i
  |some k=> ∀k',k'≠k-> ¬Owns z.o κ k' i)
section
variable{b0:Nat}{F F':Nat->Prop}{κ κ':Nat->C}{z z':Z}{e:Env}{H H':Heap}
theorem z1d{i o:Nat}(h:H'.get i=H.get i):H'.ld i o=H.ld i o:=by simp only[Heap.ld,h]
theorem X0E{i:Nat}(h:H'.get i=H.get i){R2:Type}: ∀{ks:List K0} {o:Nat} (K:List C->Option R2),H'.lds i o ks K=H.lds i o ks K
 | [],o,K=>rfl
 |k::ks,o,K=>by simp only[Heap.lds,z1d h,X0E h]
theorem J1k{p i o:Nat}{ag:Bool}{ks:List K0}(hp:e.get p= .val (.c (.ptr i o)))(h:H'.get i=H.get i):H'.rd e p ag ks=H.rd e p ag ks:=by
 simp only[Heap.rd,hp,V.asP,V.asC,oS,z1d h,X0E h]
theorem seen_same{d p i o:Nat}{ag:Bool}{ks:List K0}(hp:e.get p= .val (.c (.ptr i o)))(h:H'.get i=H.get i):seen e H' d p ag ks=seen e H d p ag ks:=by
 simp only[seen,J1k hp h]
theorem Y0w{o:ROp}(hm:o.mutes=true):touch z o=some none\/ ∃k,touch z o=some (some k)/\ ∀k',tName z o=some k'->k'=k:=by
 have key: ∀{p:Nat} {t:Option (Option Nat)},(t=match z.s p with
   | .h k | .oaddr k _ | .eaddr k _ _=>some (some k)
   |_=>some none)->t=some none\/ ∃k,t=some (some k)/\ ∀k',nameOf z (.t p)=some k'->k'=k:=by
  intro p t ht
  simp only[nameOf]
  cases hp:z.s p<;>rw[hp]at ht<;>simp only at ht<;>first |exact .inl ht |exact .inr ⟨_,ht,fun k' h=>by cases h;rfl⟩
 cases o with
 |stH n a x=>cases a with
  |t p=>exact key rfl
  |c v=>exact .inl rfl
  |f g=>exact .inl rfl
 |app sz s x=>cases s with
  |t p=>exact key rfl
  |c v=>exact .inl rfl
  |f g=>exact .inl rfl
 |_=>first |exact .inl (by simp only[touch,hm,iT]) |cases hm
theorem RfOK.step{f:Rf}{o:ROp}(h:RfOK F κ z e H f)(hs:f.safe (touch z o)=true)(A:Adv b0 F H F' H' (o.mutes=false))(own: ∀k i,Owns z'.o κ' k i->Owns z.o κ k i\/H.next<=i)
  (chg: ∀i,i<H.next->H'.get i=H.get i\/ ∃k,tName z o=some k/\Owns z.o κ k i):RfOK F' κ' z' e H' f:=by
 obtain⟨i,of,h1,h2,h3⟩:=h.at_
 have same:H'.get i=H.get i:=by
  cases hm:o.mutes with
  |false=>exact A.gentle hm i h2
  |true=>
   cases hob:f.ob with
   |none=>rw[hob]at h3;exact A.le.same i h3
   |some k=>
    rw[hob]at h3
    rcases Y0w (z:=z) hm with ht |⟨k1,ht,hk1⟩
    ·unfold Rf.safe at hs;rw[hob,ht]at hs;cases hs
    ·unfold Rf.safe at hs;rw[hob,ht]at hs
     simp only[bne_iff_ne,ne_eq]at hs
     rcases chg i h2 with h |⟨k2,g1,g2⟩
     ·exact h
     ·have:=hk1 k2 g1
      subst this
      exact absurd g2 (h3 k2 fun h=>hs h.symm)
 refine⟨by rw[seen_same h1 same];exact h.sn,i,of,h1,nL h2 A.next, ?_⟩
 cases hob:f.ob with
 |none=>rw[hob]at h3;exact A.le.sub i h3
 |some k=>
  rw[hob]at h3
  intro k' hk' ho
  rcases own k' i ho with h |h
  ·exact h3 k' hk' h
  ·omega
end
section
variable{b0:Nat}{F F':Nat->Prop}{κ κ':Nat->C}{z z':Z}{e:Env}{H H':Heap}
theorem w0b{p q:Nat}{t:T}{v:V}(hp:p<e.length)(hq:q≠p)(h:e.get q= .val v):(e.put p t).get q= .val v:=by
 rcases put_get (e:=e) (q:=q) (t:=t) hp with g |g
 ·rw[g,if_neg hq,h]
 ·rw[g,if_neg hq,h];rfl
theorem w1K{e':Env}{p:Nat}{ag:Bool}{ks:List K0}(h:e'.get p=e.get p):H.rd e' p ag ks=H.rd e p ag ks:=by simp only[Heap.rd,h]
theorem X0F{e':Env}{d p:Nat}{ag:Bool}{ks:List K0}(hd:e'.get d=e.get d)(hp:e'.get p=e.get p):seen e' H d p ag ks=seen e H d p ag ks:=by simp only[seen,hd,w1K hp]
theorem X0G{d p:Nat}{ag:Bool}{ks:List K0}(h:seen e H d p ag ks=true): ∃u,e.get d= .val u/\H.rd e p ag ks=some u:=by
 unfold seen at h
 split at h
 ·rename_i u hu
  split at h
  ·rename_i v hv;rw[q1L h]at hv;exact⟨u,hu,hv⟩
  ·cases h
 ·cases h
theorem J1l{d p:Nat}{ag:Bool}{ks:List K0}{u:V}(h1:e.get d= .val u)(h2:H.rd e p ag ks=some u):seen e H d p ag ks=true:=by
 simp only[seen,h1,h2,J0r]
theorem RfOK.put{f:Rf}(h:RfOK F κ z e H f){d:Nat}{y:Y}{t:T}(hd:d<e.length)(h1:f.d≠d)(h2:f.p≠d):RfOK F κ (z.put d y) (e.put d t) H f:=by
 obtain⟨i,o,g1,g2,g3⟩:=h.at_
 obtain⟨u,k1,k2⟩:=X0G h.sn
 have e1:=w0b (t:=t) hd h1 k1
 have e2:=w0b (t:=t) hd h2 g1
 exact⟨by rw[X0F (e1.trans k1.symm) (e2.trans g1.symm)];exact h.sn,i,o,e2,g2,g3⟩
theorem SR.where(R:SR b0 F κ z e H){p i o:Nat}{ob:Option Nat}(hw:z.where p=some ob)(hp:e.get p= .val (.c (.ptr i o))):i<H.next/\match ob with
  |none=>F i
  |some k=> ∀k',k'≠k-> ¬Owns z.o κ k' i:=by
 have hs:=R.sl p
 have owned: ∀{k:Nat},Owns z.o κ k i->i<H.next/\ ∀k',k'≠k-> ¬Owns z.o κ k' i:=fun{k} ho=>
  ⟨((R.ob k).id ho.1 ho.2).2.1,fun k' hk h=>hk (R.inj k' k i h ho)⟩
 have frozen: ∀{u:U} {c:Nat},u.isSt=false->UC H F u [.ptr i c]->i<H.next/\F i:=by
  intro u c hst hu
  cases u with
  |c x=>have:=hu.2;simp at this;subst this;cases hu.1
  |st us=>cases hst
  |sl b es=>rcases hu with⟨_,_,h⟩ |⟨_,_,_,_,_,h,_⟩<;>simp at h
  |ref v k=>obtain⟨i',_,_,_,_,h,hF,_⟩:=hu;simp at h;rw[h.1];exact⟨R.flt _ hF,hF⟩
  |fn f a b=>obtain⟨_,_,h,_⟩:=hu;simp at h
  |ifc t g cs=>obtain⟨_,h,_⟩:=hu;simp at h
 simp only[Z.where]at hw
 have viaK: ∀{k c:Nat},(z.o k).isNone=false->(κ k= .ptr i c)->(match z.o k with
   | .fz _=>some none
   | .ob _ | .oa _=>some (some k)
   |_=>none)=some ob->i<H.next/\match ob with
   |none=>F i
   |some k=> ∀k',k'≠k-> ¬Owns z.o κ k' i:=by
  intro k c hn hk h
  have hob:=R.ob k
  split at h
  ·rename_i u hu
   cases h
   rw[hu,ObR,hk]at hob
   exact frozen hob.1 hob.2
  ·rename_i cs hu
   cases h
   exact owned ⟨by rw[hu];rfl,by rw[hk];rfl⟩
  ·rename_i v hu
   cases h
   exact owned ⟨by rw[hu];rfl,by rw[hk];rfl⟩
  ·cases h
 split at hw
 ·rename_i u hz
  cases hw
  rw[hz]at hs
  obtain⟨v,h1,h2⟩:=hs
  rw[hp]at h1;cases h1
  exact frozen h2.1 h2.2
 ·rename_i k hz
  rw[hz]at hs
  have hn:(z.o k).isNone=false:=by cases hk:z.o k<;>rw[hk]at hw<;>first |rfl |cases hw
  have:=hs.resolve_left (by rw[hn];simp)
  rw[hp]at this
  simp only[T.val.injEq,V.c.injEq]at this
  exact viaK hn this.symm hw
 ·rename_i k c hz
  rw[hz]at hs
  have hn:(z.o k).isNone=false:=by cases hk:z.o k<;>rw[hk]at hw<;>first |rfl |cases hw
  obtain⟨i',h1,h2⟩:=hs.resolve_left (by rw[hn];simp)
  rw[hp]at h2
  simp only[T.val.injEq,V.c.injEq,C.ptr.injEq]at h2
  obtain⟨rfl,_⟩:=h2
  exact viaK hn h1 hw
 ·rename_i k j c hz
  rw[hz]at hs
  split at hw
  ·rename_i s hk
   cases hw
   simp only[YR,hk]at hs
   obtain⟨hb,i',q,m,g1,g2,g3⟩:=hs
   rw[hp]at g2
   simp only[T.val.injEq,V.c.injEq,C.ptr.injEq]at g2
   obtain⟨rfl,_⟩:=g2
   exact owned ⟨by rw[hk];exact hb,by rw[g1];rfl⟩
  ·cases hw
 ·cases hw
end
theorem X0H{k:K0}{x:C}{A:Type}{K:C->Option A}{r:A}(h:k.take x K=some r): ∃y,K y=some r/\ ∀{R2:Type} (K2:C->Option R2),k.take x K2=K2 y:=by
 cases k with
 |c=>exact⟨x,h,fun _=>rfl⟩
 |int k=>simp only[K0.take]at h⊢;obtain⟨n,hn,h⟩:=oB.1 h;exact⟨_,h,fun K2=>by rw[hn];rfl⟩
 |bool=>simp only[K0.take]at h⊢;obtain⟨n,hn,h⟩:=oB.1 h;exact⟨_,h,fun K2=>by rw[hn];rfl⟩
 |str=>simp only[K0.take]at h⊢;obtain⟨n,hn,h⟩:=oB.1 h;exact⟨_,h,fun K2=>by rw[hn];rfl⟩
theorem z1e{H:Heap}{i:Nat}{A:Type}: ∀{ks:List K0} {o:Nat} {K:List C->Option A} {r:A},H.lds i o ks K=some r-> ∃ys,K ys=some r/\ ∀{R2:Type} (K2:List C->Option R2),H.lds i o ks K2=K2 ys
 | [],o,K,r,h=>⟨[],h,fun _=>rfl⟩
 |k::ks,o,K,r,h=>by
  simp only[Heap.lds]at h⊢
  obtain⟨x,hx,h⟩:=oB.1 h
  obtain⟨y,h1,h2⟩:=X0H h
  obtain⟨ys,h3,h4⟩:=z1e h1
  exact⟨y::ys,h3,fun K2=>by rw[hx,oS,h2,h4]⟩
section
variable{lim:Nat}{vcall:CallT}{b0:Nat}{F F':Nat->Prop}{κ κ':Nat->C}{z z':Z}{e:Env}{H H':Heap}
theorem z1f{o:ROp}{p:Nat}{ag:Bool}{ks:List K0}{t:T}(hr:rdOfY o=some (p,ag,ks))(hev: ∀{R2:Type} (K2:T->Heap->Option R2),evalOp lim vcall e H o K2=K2 t H'):H'=H/\ ∃i c u,e.get p= .val (.c (.ptr i c))/\t= .val u/\H.rd e p ag ks=some u:=by
 have h:=hev (R2:=T×Heap) fun t h=>some (t,h)
 have place: ∀{Ko:Nat->Nat->Option (T×Heap)},placeK e (.t p) (fun _ _=>none) Ko=some (t,H')-> ∃i c,e.get p= .val (.c (.ptr i c))/\Ko i c=some (t,H'):=by
  intro Ko h
  simp only[placeK]at h
  cases ht:e.get p with
  |poison=>rw[ht]at h;cases h
  |loc cs=>rw[ht]at h;cases h
  |laddr q c=>rw[ht]at h;cases h
  |val v=>
   rw[ht]at h
   simp only at h
   obtain⟨⟨i,c⟩,ha,h⟩:=oB.1 h
   simp only[V.asP]at ha
   obtain⟨x,hx,ha⟩:=oB.1 ha
   have hv:v= .c (.ptr i c):=by
    cases v with
    |c d=>simp only[V.asC,oI]at hx;subst hx;cases d<;>simp at ha;rw[ha.1,ha.2]
    |_=>cases hx
   exact⟨i,c,by rw[hv],h⟩
 cases o with
 |ld kd a=>
  cases a<;>simp[rdOfY]at hr
  obtain⟨rfl,rfl,rfl⟩:=hr
  simp only[evalOp]at h
  obtain⟨i,c,h1,h2⟩:=place h
  obtain⟨x,hx,h3⟩:=oB.1 h2
  obtain⟨y,h4,h5⟩:=X0H h3
  simp only[oI,Prod.mk.injEq]at h4
  refine⟨h4.2.symm,i,c, .c y,h1,h4.1.symm, ?_⟩
  simp only[Heap.rd,h1,V.asP,V.asC,oS,hx,List.headD_cons,h5,bF,iF]
 |lds kds a=>
  cases a<;>simp[rdOfY]at hr
  obtain⟨rfl,rfl,rfl⟩:=hr
  simp only[evalOp]at h
  obtain⟨i,c,h1,h2⟩:=place h
  obtain⟨ys,h4,h5⟩:=z1e h2
  simp only[oI,Prod.mk.injEq]at h4
  refine⟨h4.2.symm,i,c, .agg ys,h1,h4.1.symm, ?_⟩
  simp only[Heap.rd,h1,V.asP,V.asC,oS,iT,h5]
 |_=>cases hr
def RfsOK(F:Nat->Prop)(κ:Nat->C)(z:Z)(e:Env)(H:Heap)(rs:List Rf):Prop:= ∀f∈rs,RfOK F κ z e H f
theorem J1m{o:ROp}{x:Nat×Bool×List K0}(h:rdOfY o=some x):o.core=o:=by
 cases o<;>first |rfl |cases h
theorem RfsOK.note(R:SR b0 F κ z e H){rs:List Rf}(h:RfsOK F κ z e H rs){d:Option Nat}{o:ROp}{t:T}{y:Y}(hd: ∀p,d=some p->p<e.length)(hev: ∀{R2:Type} (K2:T->Heap->Option R2),evalOp lim vcall e H o.core K2=K2 t H')
  (A:Adv b0 F H F' H' (o.core.mutes=false)) (own: ∀k i,Owns z'.o κ' k i->Owns z.o κ k i\/H.next<=i) (chg: ∀i,i<H.next->H'.get i=H.get i\/ ∃k,tName z o.core=some k/\Owns z.o κ k i):RfsOK F' κ' (z'.putO d y) (e.putO d t) H' (noteR z d o rs):=by
 have old: ∀f∈rs.filter (fun r=>decide (some r.d≠d)&&decide (some r.p≠d)&&r.safe (touch z o.core)),RfOK F' κ' (z'.putO d y) (e.putO d t) H' f:=by
  intro f hf
  rw[List.mem_filter]at hf
  obtain⟨hf,hc⟩:=hf
  simp only[bA,dE]at hc
  have h1:=(h f hf).step (κ':=κ') (z':=z') hc.2 A own chg
  cases d with
  |none=>exact h1
  |some d=>exact h1.put (hd d rfl) (fun h=>hc.1.1 (by rw[h])) (fun h=>hc.1.2 (by rw[h]))
 unfold noteR
 split
 ·rename_i d p ag ks hrd
  have hcore:=J1m hrd
  split
  ·exact old
  ·rename_i hdp
   split
   ·rename_i ob hw
    intro f hf
    rcases mC.1 hf with rfl |hf
    ·rw[hcore]at hev
     obtain⟨rfl,i,c,u,h1,rfl,h3⟩:=z1f hrd hev
     obtain⟨g1,g2⟩:=R.where hw h1
     have hp:(e.put d (.val u)).get p= .val (.c (.ptr i c)):=w0b (hd d rfl) (fun h=>hdp h.symm) h1
     have hdv:(e.put d (.val u)).get d= .val u:=by
      rcases put_get (e:=e) (q:=d) (t:= .val u) (hd d rfl)with g |g<;>rw[g,if_pos rfl]<;>rfl
     refine⟨J1l (u:=u) hdv ((w1K (hp.trans h1.symm)).trans h3),i,c,hp,g1, ?_⟩
     cases ob with
     |none=>exact A.le.sub i g2
     |some k=>
      intro k' hk' ho
      rcases own k' i ho with h |h
      ·exact g2 k' hk' h
      ·omega
    ·exact old f hf
   ·exact old
 ·exact old
theorem RfsOK.weak{rs rs':List Rf}(h:RfsOK F κ z e H rs)(hs: ∀f∈rs',f∈rs):RfsOK F κ z e H rs':=fun f hf=>h f (hs f hf)
end
section
variable{lim:Nat}{vcall:CallT}{b0:Nat}{F F':Nat->Prop}{κ κ':Nat->C}{z z':Z}{e:Env}{H H':Heap}
theorem k1R{rs:List Rf}(h:RfsOK F κ z e H rs){t:T}(c:ROp)(A:Adv b0 F H F' H' (c.mutes=false))(own: ∀k i,Owns z'.o κ' k i->Owns z.o κ k i\/H.next<=i)(chg: ∀i,i<H.next->H'.get i=H.get i\/ ∃k,tName z c=some k/\Owns z.o κ k i)
  (hev: ∀{R2:Type} (K2:T->Heap->Option R2),evalOp lim vcall e H c K2=K2 t H'): ∀(o:ROp),o.core=c->okChk z rs o=true-> ∀{R2:Type} (K2:T->Heap->Option R2),evalOp lim vcall e H o K2=K2 t H':=by
 intro o
 induction o with
 |chkd o d p ag ks ih=>
  intro hc hok R2 K2
  simp only[okChk,bA]at hok
  obtain⟨h1,h2⟩:=hok
  have hc':o.core=c:=hc
  simp only[evalOp]
  rw[ih hc' h2]
  obtain⟨f,hf,hq⟩:=List.any_eq_true.1 h1
  simp only[bA,beq_iff_eq]at hq
  obtain⟨⟨⟨⟨rfl,rfl⟩,rfl⟩,rfl⟩,hs⟩:=hq
  rw[hc']at hs
  have:=(h f hf).step (κ':=κ') (z':=z') hs A own chg
  rw[if_pos this.sn]
 |_=>intro hc _ R2 K2;rw[<-hc]at hev;exact hev K2
theorem X0I{e:Env}{p q:Nat}:Env.get (e.map (T.purge p)) q=(e.get q).purge p:=by
 simp only[Env.get,lG,List.getElem?_map]
 cases e[q]? <;>rfl
theorem z1g{y:Y}{p:Nat}{cs:List Oc}(h:y.purge p= .loc cs):y= .loc cs:=by
 cases y<;>simp[Y.purge]at h⊢ <;>first |exact h |(split at h<;>cases h)
theorem SR.loc(R:SR b0 F κ z e H){p:Nat}{cs:List Oc}{xs:List C}(hp:p<e.length)(hr:OcsR H F κ z.o cs xs)(hfr: ∀k,z.n<=k->k<base-> ∀c∈cs,¬c.refs k):SR b0 F κ (z.loc p cs) ((e.map (T.purge p)).set p (.loc xs)) H:=by
 have hs: ∀q,(z.loc p cs).s q=if q=p then .loc cs else(z.s q).purge p:=fun q=>by simp only[Z.loc,cond_eq_ite,Nat.beq_eq]
 refine⟨fun q=> ?_,R.ob,R.inj,R.disj,R.flt,R.low,fun k h1 h2 q=> ?_,R.fo⟩
 ·rw[w0A (by simpa using hp),hs]
  by_cases hq:q=p
  ·subst hq;rw[if_pos rfl,if_pos rfl];exact⟨xs,rfl,hr⟩
  ·rw[if_neg hq,if_neg hq,X0I]
   have h:=R.sl q
   have hval: ∀{v:V},e.get q= .val v->(e.get q).purge p= .val v:=fun h=>by rw[h];rfl
   cases hy:z.s q with
   |addr q' c=>
    rw[hy]at h
    simp only[Y.purge]
    by_cases hqp:q'=p
    ·rw[if_pos hqp];trivial
    ·rw[if_neg hqp]
     simp only[YR]at h⊢
     rw[hs,if_neg hqp]
     split
     ·rename_i cs' hl
      rw[z1g hl]at h
      simp only at h
      rw[h];simp only[T.purge,if_neg hqp]
     ·trivial
   |poison=>trivial
   |val u=>rw[hy]at h;obtain⟨v,h1,h2⟩:=h;exact⟨v,hval h1,h2⟩
   |tup us=>rw[hy]at h;obtain⟨v,h1,h2⟩:=h;exact⟨v,hval h1,h2⟩
   |agg us=>rw[hy]at h;obtain⟨v,h1,h2⟩:=h;exact⟨v,hval h1,h2⟩
   |loc us=>rw[hy]at h;obtain⟨v,h1,h2⟩:=h;exact⟨v,by rw[h1];rfl,h2⟩
   |h k=>rw[hy]at h;exact h.imp id fun h=>hval h
   |oaddr k c=>rw[hy]at h;exact h.imp id fun⟨i,g1,g2⟩=>⟨i,g1,hval g2⟩
   |w k lo n=>
    rw[hy]at h
    simp only[YR,Y.purge,Z.loc]at h⊢
    split
    ·rename_i x hx
     rw[hx]at h
     obtain⟨hb,i,q',m,g1,g2,g3⟩:=h
     exact⟨hb,i,q',m,g1,hval g2,g3⟩
    ·trivial
   |eaddr k j c=>
    rw[hy]at h
    simp only[YR,Y.purge,Z.loc]at h⊢
    split
    ·rename_i x hx
     rw[hx]at h
     obtain⟨hb,i,q',m,g1,g2,g3⟩:=h
     exact⟨hb,i,q',m,g1,hval g2,g3⟩
    ·trivial
 ·rw[hs]
  split
  ·exact fun⟨c,hc,hr⟩=>hfr k h1 h2 c hc hr
  ·have:=R.fs k h1 h2 q
   cases hy:z.s q<;>rw[hy]at this<;>simp only[Y.purge]<;>first |exact this |(split<;>exact fun h=>h)
end
section
variable{lim:Nat}{vcall:CallT}{b0:Nat}{F F':Nat->Prop}{κ κ':Nat->C}{z z':Z}{e e':Env}{H H':Heap}
theorem RfOK.keep{f:Rf}(h:RfOK F κ z e H f)(hF: ∀i,F i->F' i)(own: ∀k i,Owns z'.o κ' k i->Owns z.o κ k i\/H.next<=i)(same: ∀i,i<H.next->H'.get i=H.get i)(hn:H.next<=H'.next)
  (hd: ∀v,e.get f.d= .val v->e'.get f.d= .val v) (hp: ∀v,e.get f.p= .val v->e'.get f.p= .val v):RfOK F' κ' z' e' H' f:=by
 obtain⟨i,o,h1,h2,h3⟩:=h.at_
 obtain⟨u,k1,k2⟩:=X0G h.sn
 refine⟨by rw[X0F ((hd _ k1).trans k1.symm) ((hp _ h1).trans h1.symm),seen_same h1 (same i h2)];exact h.sn,i,o,hp _ h1,nL h2 hn, ?_⟩
 cases hob:f.ob with
 |none=>rw[hob]at h3;exact hF i h3
 |some k=>
  rw[hob]at h3
  intro k' hk' ho
  rcases own k' i ho with h |h
  ·exact h3 k' hk' h
  ·omega
theorem Q0j{ds:List Nat}{rs:List Rf}{f:Rf}(h:f∈noteK ds rs):f∈rs/\f.d∉ds/\f.p∉ds:=by
 simp only[noteK,List.mem_filter,bA,bN,List.contains_eq_mem,dN]at h
 exact⟨h.1,h.2.1,h.2.2⟩
theorem J0J{p q:Nat}{xs:List C}{v:V}(hp:p<e.length)(hq:q≠p)(h:e.get q= .val v):Env.get ((e.map (T.purge p)).set p (.loc xs)) q= .val v:=by
 rw[w0A (by simpa using hp),if_neg hq,X0I,h];rfl
theorem J0K{q:Nat}{v:V}: ∀{ds:List Nat} {e:Env},(∀d∈ds,d<e.length)->q∉ds->e.get q= .val v->(Env.kill ds e).get q= .val v
 | [],e,_,_,h=>h
 |d::ds,e,hl,hq,h=>by
  simp only[mC,not_or]at hq
  have hlen:(e.put d .poison).length=e.length:=by
   unfold Env.put;split<;>simp
  exact J0K (e:=e.put d .poison) (fun x hx=>by rw[hlen];exact hl x (by simp[hx])) hq.2 (w0b (hl d (by simp)) hq.1 h)
theorem J0L{p:Nat}{t:T}:(e.put p t).length=e.length:=by unfold Env.put;split<;>simp
theorem X0J{d:Option Nat}{t:T}:(e.putO d t).length=e.length:=by cases d<;>first |rfl |exact J0L
theorem k0K: ∀{ds:List Nat} {e:Env},(Env.kill ds e).length=e.length
 | [],e=>rfl
 |d::ds,e=>by rw[Env.kill,k0K,J0L]
end
theorem Y0x: ∀o:ROp,o.core.mutes=o.mutes:=by
 intro o
 induction o with
 |chkd o d p ag ks ih=>exact ih
 |_=>rfl
section
variable{lim:Nat}{vcall:CallT}{b0:Nat}
theorem w1L: ∀{ds:List Nat} {z:Z},(Z.kill ds z).o=z.o
 | [],z=>rfl
 |d::ds,z=>by rw[Z.kill,w1L];rfl
def Ran(lim:Nat)(vcall:CallT)(b0:Nat)(F:Nat->Prop)(e:Env)(H:Heap)(ops:Ops)(z':Z):Prop:=
 ∃e' H' F' κ',(∀{R2:Type} (K2:Env->Heap->Option R2),runOps lim vcall ops e H K2=K2 e' H')/\SR b0 F' κ' z' e' H'/\Adv b0 F H F' H' (gentle ops=true)/\e'.length=e.length
theorem q0v{n:Nat}{md:FuncId->List RM}{ycall:YCallT}(hlim:lim<=b0)(C0:CallsOK lim vcall md ycall): ∀(ops:Ops) {rs:List Rf} {F:Nat->Prop} {κ:Nat->C} {z:Z} {e:Env} {H:Heap} {A:Type} {K:Z->Option A} {r:A},SR b0 F κ z e H->n<=e.length->RfsOK F κ z e H rs->yrunOps n md ycall ops rs z K=some r->
  ∃z',K z'=some r/\Ran lim vcall b0 F e H ops z'
 | .nil,rs,F,κ,z,e,H,A,K,r,R,hn,hrs,h=>⟨z,h,e,H,F,κ,fun K2=>by simp only[runOps],R, .refl _ _ _ _,rfl⟩
 | .op d o rest,rs,F,κ,z,e,H,A,K,r,R,hn,hrs,h=>by
  simp only[yrunOps]at h
  split at h
  ·rename_i hc
   obtain⟨y,z1,h1,F1,κ1,t,H1,hev,R1,hy,A1,hzn,hs,hfr,hl,own,chg⟩:=K0A (lim:=lim) (vcall:=vcall) hlim C0 R h
   have hd: ∀p,d=some p->p<e.length:=fun p hp=>by
    have:=hc.1;rw[hp]at this;simp only[inN,dE]at this;omega
   have R2:SR b0 F1 κ1 (z1.putO d y) (e.putO d t) H1:=by
    cases d with
    |none=>exact R1
    |some d=>exact R1.put (hd d rfl) hy hfr hl
   have hev': ∀{R2:Type} (K2:T->Heap->Option R2),evalOp lim vcall e H o K2=K2 t H1:=k1R (κ':=κ1) (z':=z1) hrs o.core A1 own chg hev o rfl hc.2
   obtain⟨z2,k1,e2,H2,F2,κ2,g1,g2,g3,g4⟩:=q0v hlim C0 rest R2 (by rw[X0J];exact hn) (RfsOK.note (y:=y) R hrs hd hev A1 own chg) h1
   refine⟨z2,k1,e2,H2,F2,κ2,fun K2=>by simp only[runOps];rw[hev',g1],g2,(A1.weak fun hq=> ?_).trans (g3.weak fun hq=> ?_),by rw[g4,X0J]⟩
   ·simp only[gentle,bA,bN]at hq;rw[Y0x];exact hq.1
   ·simp only[gentle,bA,bN]at hq;exact hq.2
  ·cases h
 | .lbox m p x rest,rs,F,κ,z,e,H,A,K,r,R,hn,hrs,h=>by
  simp only[yrunOps]at h
  obtain⟨cs,z1,F1,v,xs,h1,h2,h3,h4,h5,h6⟩:=R.ypart h
  split at h1
  ·rename_i hc
   have hp:p<e.length:=by omega
   have R2:=h4.sr.loc hp h5 (fun k k1 k2=>h6 k (by rw[<-h4.n];exact k1) k2)
   have hrs2:RfsOK F1 κ (z1.loc p cs) ((e.map (T.purge p)).set p (.loc xs)) H (noteK [p] rs):=fun f hf=>by
    obtain⟨g1,g2,g3⟩:=Q0j hf
    exact(hrs f g1).keep h4.le.sub (fun k i hk=> .inl (h4.own k i hk)) (fun _ _=>rfl) (nR _) (fun v hv=>J0J hp (by simpa using g2) hv) (fun v hv=>J0J hp (by simpa using g3) hv)
   obtain⟨z2,k1,e2,H2,F2,κ2,g1,g2,g3,g4⟩:=q0v hlim C0 rest R2 (by simpa using hn) hrs2 h1
   exact⟨z2,k1,e2,H2,F2,κ2,fun K2=>by simp only[runOps,h2,h3,oS];rw[if_pos (by rw[<-h5.length];exact hc.1),g1],g2,((h4.adv R True).weak fun _=>trivial).trans (g3.weak fun hq=>by cases hq),by rw[g4];simp⟩
  ·cases h1
 | .lnew p c rest,rs,F,κ,z,e,H,A,K,r,R,hn,hrs,h=>by
  simp only[yrunOps]at h
  split at h
  ·rename_i hc
   have hp:p<e.length:=by omega
   obtain⟨cs,z1,κ1,h1,h2,h3,h4⟩:=Q0g R h
   have R2:=h2.sr.loc hp h3 h4
   have hrs2:RfsOK F κ1 (z1.loc p cs) ((e.map (T.purge p)).set p (.loc c)) H (noteK [p] rs):=fun f hf=>by
    obtain⟨g1,g2,g3⟩:=Q0j hf
    exact(hrs f g1).keep (fun _ h=>h) (fun k i hk=> .inl (h2.own k i hk)) (fun _ _=>rfl) (nR _) (fun v hv=>J0J hp (by simpa using g2) hv) (fun v hv=>J0J hp (by simpa using g3) hv)
   obtain⟨z2,k1,e2,H2,F2,κ2,g1,g2,g3,g4⟩:=q0v hlim C0 rest R2 (by simpa using hn) hrs2 h1
   exact⟨z2,k1,e2,H2,F2,κ2,fun K2=>by simp only[runOps];rw[g1],g2,g3.weak (fun hq=>by cases hq),by rw[g4];simp⟩
  ·cases h
 | .st hp m a x rest,rs,F,κ,z,e,H,A,K,r,R,hn,hrs,h=>by
  simp only[yrunOps]at h
  obtain⟨z1,F1,v,xs,h1,h2,h3,h4,h5⟩:=Z0O (lim:=lim) hlim R h
  rcases h5 with⟨rfl,i,o,H1,w⟩ |⟨q,c,xs0,rfl,w⟩
  ·have hrs2:RfsOK F1 κ z1 e H1 (rs.filter fun f=>f.safe (touch z (.stH m a x))):=fun f hf=>by
    obtain⟨g1,g2⟩:=List.mem_filter.1 hf
    exact(hrs f g1).step (o:= .stH m a x) g2 (w.adv.weak fun h=>by cases h) (fun k i hk=> .inl (w.own k i hk)) fun j hj=>by
     by_cases hji:j=i
     ·subst hji;obtain⟨k,k1,k2⟩:=w.name;exact .inr ⟨k,k1,k2⟩
     ·exact .inl (w.else_ j hji)
   obtain⟨z2,k1,e2,H2,F2,κ2,g1,g2,g3,g4⟩:=q0v hlim C0 rest w.sr hn hrs2 h1
   exact⟨z2,k1,e2,H2,F2,κ2,fun K2=>by simp only[runOps,h2,h3,oS,h4,ne_eq,not_true,iF];rw[w.at_];simp only[not_true,iF,w.st,oS];rw[g1],g2,(w.adv.weak fun hq=>by cases hq).trans (g3.weak fun hq=>by cases hq),g4⟩
  ·have hlt:=w1J w.get
   have val: ∀{s:Nat} {u:V},e.get s= .val u->Env.get (e.set q (.loc (splice xs0 c xs))) s= .val u:=fun{s u} hs=>by
    rw[w0A hlt,if_neg (fun h=>by rw[h,w.get]at hs;cases hs),hs]
   have hrs2:RfsOK F1 κ z1 (e.set q (.loc (splice xs0 c xs))) H rs:=fun f hf=>
    (hrs f hf).keep w.adv.le.sub (fun k i hk=> .inl (w.own k i hk)) (fun _ _=>rfl) (nR _) (fun v hv=>val hv) (fun v hv=>val hv)
   obtain⟨z2,k1,e2,H2,F2,κ2,g1,g2,g3,g4⟩:=q0v hlim C0 rest w.sr (by simpa using hn) hrs2 h1
   exact⟨z2,k1,e2,H2,F2,κ2,fun K2=>by
    simp only[runOps,h2,h3,oS,h4,ne_eq,not_true,iF];rw[w.at_]
    simp only[not_true,iF,locCells,w.get,oS]
    rw[if_pos (by rw[<-h4];exact w.le),g1],g2,(w.adv.weak fun hq=>trivial).trans (g3.weak fun hq=>by cases hq),by rw[g4];simp⟩
 | .logic and c inner keep d rest,rs,F,κ,z,e,H,A,K,r,R,hn,hrs,h=>by
  simp only[yrunOps]at h
  split at h
  ·rename_i hc
   obtain⟨hg,hdn,hds⟩:=hc
   have hds': ∀p∈dsts inner,p<e.length:=fun p hp=>by
    have:=List.all_eq_true.1 hds p hp;simp only[dE]at this;omega
   obtain⟨b,hb,h⟩:=oB.1 h
   obtain⟨q,hq,h⟩:=oB.1 h
   have inn: ∃H1:Heap,(if b=and then runOps lim vcall inner e H (fun e' H'=>(evB e' keep).bind fun r=>some (r,H'))else some (b,H))=some (q,H1)/\H.next<=H1.next/\ ∀i,i<H.next->H1.get i=H.get i:=by
    split at hq
    ·rename_i hba
     obtain⟨z1,k1,e1,H1,F1,κ1,g1,g2,g3,g4⟩:=q0v hlim C0 inner R hn hrs hq
     exact⟨H1,by rw[if_pos hba,g1,g2.ylB k1];rfl,g3.next,g3.gentle hg⟩
    ·rename_i hba
     cases hq
     exact⟨H,by rw[if_neg hba],nR _,fun _ _=>rfl⟩
   obtain⟨H1,i1,i2,i3⟩:=inn
   have m:FLe H F H1 F:=⟨fun _ h=>h,fun i hi=>i3 i (R.flt i hi)⟩
   have R1:SR b0 F κ z e H1:=R.grow m i2 (fun k i ho=>i3 i ((R.ob k).id ho.1 ho.2).2.1) (fun i hi=>nL (R.flt i hi) i2) R.disj
   have hd:d<(Env.kill (dsts inner) e).length:=by rw[k0K];omega
   have R2:=(R1.kill hds').put hd (y:= .val (.c (.bool q))) (t:= .val (.c (.bool q))) ⟨_,rfl,rfl,rfl,rfl⟩ (fun _ _ _ h=>h) (fun _ h=>by cases h)
   have hrs2:RfsOK F κ ((Z.kill (dsts inner) z).put d (.val (.c (.bool q)))) ((Env.kill (dsts inner) e).put d (.val (.c (.bool q)))) H1 (noteK (d::dsts inner) rs):=fun f hf=>by
    obtain⟨g1,g2,g3⟩:=Q0j hf
    simp only[mC,not_or]at g2 g3
    exact(hrs f g1).keep (fun _ h=>h) (fun k i hk=> .inl (by rw[put_o,w1L]at hk;exact hk)) i3 i2 (fun v hv=>w0b hd g2.1 (J0K hds' g2.2 hv)) (fun v hv=>w0b hd g3.1 (J0K hds' g3.2 hv))
   obtain⟨z2,k1,e2,H2,F2,κ2,g1,g2,g3,g4⟩:=q0v hlim C0 rest R2 (by rw[J0L,k0K];exact hn) hrs2 h
   refine⟨z2,k1,e2,H2,F2,κ2,fun K2=>by simp only[runOps,R.ylB hb,oS,i1];rw[g1],g2,(⟨i2,fun i hi=>i3 i (nL hi R.low),m,fun i hi=> .inl hi,fun _=>i3⟩:Adv b0 F H F H1 _).trans (g3.weak fun hq=> ?_),by rw[g4,J0L,k0K]⟩
   simp only[gentle,bA]at hq;exact hq.2
  ·cases h
end
def kof(cs:List C):Nat->C:=fun k=>if base<=k then cs.getD (k - base) .junk else .junk
def oof(obs:List Ob):Nat->Ob:=fun k=>if base<=k then obs.getD (k - base) .none else .none
def OcS(H:Heap)(F:Nat->Prop)(cs:List C):Oc->C->Prop
 | .u u,x=>u.isSt=false/\UC H F u [x]
 | .h k,x=> ∃i,k=base+i/\cs[i]? =some x
def OcsS(H:Heap)(F:Nat->Prop)(cs:List C):List Oc->List C->Prop
 | [],xs=>xs=[]
 |c::r,xs=> ∃x xs',xs=x::xs'/\OcS H F cs c x/\OcsS H F cs r xs'
def ObS(H:Heap)(F:Nat->Prop)(cs:List C)(b0:Nat)(c:C):Ob->Prop
 | .none=>True
 | .sl s=>(s.b=false/\s.es=[]/\c= .nilSlice)\/(s.b=true/\ ∃i p xs,c= .slice i p s.es.length/\b0<=i/\i<H.next/\H.get i=some (.cells s.sz xs)/\p+s.es.length*s.sz<=xs.length/\EsR H F s.es s.sz ((xs.drop p).take (s.es.length*s.sz)))
 | .ob ds=> ∃i z xs,c= .ptr i 0/\b0<=i/\i<H.next/\H.get i=some (.cells z xs)/\OcsS H F cs ds xs
 | .oa v=> ∃i z xs,c= .ptr i 0/\b0<=i/\i<H.next/\H.get i=some (.cells z xs)/\UC H F v xs
 | .fz u=>False
section
variable{H:Heap}{F:Nat->Prop}{cs cs':List C}
theorem OcS.mono(h: ∀(i:Nat) c,cs[i]? =some c->cs'[i]? =some c){c:Oc}{x:C}(hc:OcS H F cs c x):OcS H F cs' c x:=by
 cases c with
 |u u=>exact hc
 |h k=>obtain⟨i,h1,h2⟩:=hc;exact⟨i,h1,h i x h2⟩
theorem OcsS.mono(h: ∀(i:Nat) c,cs[i]? =some c->cs'[i]? =some c): ∀{ds:List Oc} {xs:List C},OcsS H F cs ds xs->OcsS H F cs' ds xs
 | [],xs,hc=>hc
 |d::ds,xs,⟨x,xs',h1,h2,h3⟩=>⟨x,xs',h1,h2.mono h,OcsS.mono h h3⟩
theorem ObS.mono(h: ∀(i:Nat) c,cs[i]? =some c->cs'[i]? =some c){b0:Nat}{c:C}{b:Ob}(hb:ObS H F cs b0 c b):ObS H F cs' b0 c b:=by
 cases b with
 |ob ds=>obtain⟨i,z,xs,h1,h2,h3,h4,h5⟩:=hb;exact⟨i,z,xs,h1,h2,h3,h4,h5.mono h⟩
 |_=>exact hb
end
def Named(z:Z)(κ:Nat->C)(k lo n':Nat)(c:C):Prop:=
 (n'=0/\c=κ k)\/ ∃n s i p m,n'=n+1/\z.o k= .sl s/\κ k= .slice i p m/\c= .slice i (p+lo*s.sz) n
structure CnI (H:Heap) (F:Nat->Prop) (z:Z) (κ:Nat->C) (b0:Nat) (cn:Cn) (cs:List C):Prop where
 len:cs.length=cn.obs.length
 val: ∀q∈cn.keys,q.2.2.2<cn.obs.length
 uniq: ∀q∈cn.keys,∀q'∈cn.keys,q.1=q'.1->q=q'
 own: ∀(i:Nat) b c,cn.obs[i]? =some b->b.live=true->cs[i]? =some c-> ∀id,idC c=some id-> ∃q∈cn.keys,q.2.2.2=i/\Owns z.o κ q.1 id
 ob: ∀(i:Nat) b c,cn.obs[i]? =some b->cs[i]? =some c->ObS H F cs b0 c b
 nm: ∀q∈cn.keys,∀c,cs[q.2.2.2]? =some c->Named z κ q.1 q.2.1 q.2.2.1 c
theorem z0p{k lo n:Nat}: ∀{l:List (Nat×Nat×Nat×Nat)},Cn.find k lo n l=none-> ∀q∈l,q.1≠k
 | [],_,q,hq=>by cases hq
 |(k',lo',n',i)::r,h,q,hq=>by
  simp only[Cn.find]at h
  split at h
  ·split at h<;>cases h
  ·rename_i hk
   rcases mC.1 hq with rfl |hq
   ·exact hk
   ·exact z0p h q hq
theorem z0q{k lo n i:Nat}: ∀{l:List (Nat×Nat×Nat×Nat)},Cn.find k lo n l=some (some i)->(k,lo,n,i)∈l
 | [],h=>by cases h
 |(k',lo',n',i')::r,h=>by
  simp only[Cn.find]at h
  split at h
  ·rename_i hk
   split at h
   ·rename_i h2;cases h;rw[hk,h2.1,h2.2];simp
   ·cases h
  ·exact List.mem_cons_of_mem _ (z0q h)
section
variable{H:Heap}{F:Nat->Prop}{z:Z}{κ:Nat->C}{b0:Nat}{cn:Cn}{cs:List C}
theorem Q0k{A:Type}{l l':List A}{i:Nat}{a:A}(h:l[i]? =some a):(l++l')[i]? =some a:=by
 rw[List.getElem?_append_left (gE.1 h).1];exact h
theorem CnI.add(I:CnI H F z κ b0 cn cs){k lo n':Nat}{b:Ob}{c:C}(hk: ∀q∈cn.keys,q.1≠k)(hb:ObS H F (cs++[c]) b0 c b)(hown:b.live=true-> ∀id,idC c=some id->Owns z.o κ k id)(hnm:Named z κ k lo n' c):
  CnI H F z κ b0 ⟨(k,lo,n',cn.obs.length)::cn.keys,cn.obs++[b],cn.bad⟩ (cs++[c]):=by
 have mono: ∀(i:Nat) c',cs[i]? =some c'->(cs++[c])[i]? =some c':=fun i c' h=>Q0k h
 have back: ∀{i:Nat} {b':Ob} {c':C},(cn.obs++[b])[i]? =some b'->(cs++[c])[i]? =some c'->(cn.obs[i]? =some b'/\cs[i]? =some c')\/(i=cn.obs.length/\b'=b/\c'=c):=by
  intro i b' c' h1 h2
  by_cases hi:i<cn.obs.length
  ·rw[List.getElem?_append_left hi]at h1
   rw[List.getElem?_append_left (by rw[I.len];exact hi)]at h2
   exact .inl ⟨h1,h2⟩
  ·have hi2:i=cn.obs.length:=by
    have:=(gE.1 h1).1
    simp at this;omega
   subst hi2
   rw[List.getElem?_append_right (nR _)]at h1
   rw[<-I.len,List.getElem?_append_right (nR _)]at h2
   simp at h1 h2
   exact .inr ⟨rfl,h1.symm,h2.symm⟩
 refine⟨by simp[I.len],fun q hq=> ?_,fun q hq q' hq' he=> ?_,fun i b' c' h1 h2 h3 id h4=> ?_,fun i b' c' h1 h2=> ?_,fun q hq c' h=> ?_⟩
 ·rcases mC.1 hq with rfl |hq
  ·simp
  ·have:=I.val q hq;simp;omega
 ·rcases mC.1 hq with rfl |hq<;>rcases mC.1 hq' with rfl |hq'
  ·rfl
  ·exact absurd he.symm (hk q' hq')
  ·exact absurd he (hk q hq)
  ·exact I.uniq q hq q' hq' he
 ·rcases back h1 h3 with⟨g1,g2⟩ |⟨rfl,rfl,rfl⟩
  ·obtain⟨q,hq,k1,k2⟩:=I.own i b' c' g1 h2 g2 id h4
   exact⟨q,List.mem_cons_of_mem _ hq,k1,k2⟩
  ·exact⟨_,List.mem_cons_self,rfl,hown h2 id h4⟩
 ·rcases back h1 h2 with⟨g1,g2⟩ |⟨rfl,rfl,rfl⟩
  ·exact(I.ob i b' c' g1 g2).mono mono
  ·exact hb
 ·rcases mC.1 hq with rfl |hq
  ·simp only at h
   rw[<-I.len,List.getElem?_append_right (nR _)]at h
   simp at h
   subst h;exact hnm
  ·rw[List.getElem?_append_left (by rw[I.len];exact I.val q hq)]at h
   exact I.nm q hq c' h
theorem q0s{o:Nat->Ob}: ∀{ds:List Oc} {cn:Cn},cn.bad=true->(canonC o cn ds).2.bad=true
 | [],cn,h=>h
 | .u x::ds,cn,h=>by simp only[canonC];exact q0s h
 | .h k::ds,cn,h=>by
  simp only[canonC]
  split
  ·exact q0s h
  ·split
   ·exact q0s h
   ·exact q0s rfl
   ·exact q0s h
  ·split
   ·exact q0s h
   ·exact q0s rfl
   ·exact q0s h
  ·exact q0s rfl
theorem CnI.at_(I:CnI H F z κ b0 cn cs){k lo n' i:Nat}(h:(k,lo,n',i)∈cn.keys): ∃c,cs[i]? =some c/\Named z κ k lo n' c:=by
 have hl:=I.val _ h
 have:i<cs.length:=by rw[I.len];exact hl
 exact⟨cs[i],List.getElem?_eq_getElem this,I.nm _ h _ (List.getElem?_eq_getElem this)⟩
theorem Q0l{k lo:Nat}{c:C}(h:Named z κ k lo 0 c):c=κ k:=by
 rcases h with⟨_,h⟩ |⟨n,_,_,_,_,h,_⟩
 ·exact h
 ·cases h
variable{e:Env}
theorem q0M(R:SR b0 F κ z e H): ∀{ds:List Oc} {xs:List C} {cn:Cn} {cs:List C},CnI H F z κ b0 cn cs->OcsR H F κ z.o ds xs->(canonC z.o cn ds).2.bad=false->
  ∃cs',(∀(i:Nat) c,cs[i]? =some c->cs'[i]? =some c)/\CnI H F z κ b0 (canonC z.o cn ds).2 cs'/\OcsS H F cs' (canonC z.o cn ds).1 xs/\(∀(i:Nat) b,cn.obs[i]? =some b->(canonC z.o cn ds).2.obs[i]? =some b)/\ ∀q∈cn.keys,q∈(canonC z.o cn ds).2.keys
 | [],xs,cn,cs,I,h,hb=>⟨cs,fun _ _ h=>h,I,h,fun _ _ h=>h,fun _ h=>h⟩
 | .u x::ds,xs,cn,cs,I,⟨c,xs',h1,h2,h3⟩,hb=>by
  simp only[canonC]at hb⊢
  obtain⟨cs',g1,g2,g3,g4,g5⟩:=q0M R I h3 hb
  exact⟨cs',g1,g2,⟨c,xs',h1,h2,g3⟩,g4,g5⟩
 | .h k::ds,xs,cn,cs,I,⟨c,xs',h1,h2,h3⟩,hb=>by
  have hob:=R.ob k
  have found: ∀{i:Nat},(z.o k).isNone=false->Cn.find k 0 0 cn.keys=some (some i)->(canonC z.o cn ds).2.bad=false-> ∃cs',(∀(i:Nat) c,cs[i]? =some c->cs'[i]? =some c)/\CnI H F z κ b0 (canonC z.o cn ds).2 cs'/\OcsS H F cs' (.h (base+i)::(canonC z.o cn ds).1) xs/\(∀(i:Nat) b,cn.obs[i]? =some b->(canonC z.o cn ds).2.obs[i]? =some b)/\ ∀q∈cn.keys,q∈(canonC z.o cn ds).2.keys:=by
   intro i hn hf hb
   obtain⟨c0,k1,k2⟩:=I.at_ (z0q hf)
   have hc:c=κ k:=h2.resolve_left (by rw[hn];simp)
   obtain⟨cs',g1,g2,g3,g4,g5⟩:=q0M R I h3 hb
   exact⟨cs',g1,g2,⟨c,xs',h1,⟨i,rfl,by rw[hc,<-Q0l k2];exact g1 i c0 k1⟩,g3⟩,g4,g5⟩
  have fresh: ∀{b:Ob},(z.o k).isNone=false->Cn.find k 0 0 cn.keys=none->z.o k=b->ObS H F (cs++[κ k]) b0 (κ k) b->(canonC z.o ⟨(k,0,0,cn.obs.length)::cn.keys,cn.obs++[b],cn.bad⟩ ds).2.bad=false-> ∃cs',(∀(i:Nat) c,cs[i]? =some c->cs'[i]? =some c)/\CnI H F z κ b0 (canonC z.o ⟨(k,0,0,cn.obs.length)::cn.keys,cn.obs++[b],cn.bad⟩ ds).2 cs'/\OcsS H F cs' (.h (base+cn.obs.length)::(canonC z.o ⟨(k,0,0,cn.obs.length)::cn.keys,cn.obs++[b],cn.bad⟩ ds).1) xs/\(∀(i:Nat) b',cn.obs[i]? =some b'->(canonC z.o ⟨(k,0,0,cn.obs.length)::cn.keys,cn.obs++[b],cn.bad⟩ ds).2.obs[i]? =some b')/\ ∀q∈cn.keys,q∈(canonC z.o ⟨(k,0,0,cn.obs.length)::cn.keys,cn.obs++[b],cn.bad⟩ ds).2.keys:=by
   intro b hn hf hk hs hb
   have hc:c=κ k:=h2.resolve_left (by rw[hn];simp)
   have I2:=I.add (k:=k) (lo:=0) (n':=0) (b:=b) (c:=κ k) (z0p hf) hs (fun hl id hid=>⟨by rw[hk];exact hl,hid⟩) (.inl ⟨rfl,rfl⟩)
   obtain⟨cs',g1,g2,g3,g4,g5⟩:=q0M R I2 h3 hb
   have hlast:(cs++[κ k])[cn.obs.length]? =some (κ k):=by rw[<-I.len,List.getElem?_append_right (nR _)];simp
   exact⟨cs',fun i c h=>g1 i c (Q0k h),g2,⟨c,xs',h1,⟨_,rfl,by rw[hc];exact g1 _ _ hlast⟩,g3⟩,fun i b' h=>g4 i b' (Q0k h),fun q hq=>g5 q (List.mem_cons_of_mem _ hq)⟩
  simp only[canonC]at hb⊢
  split at hb
  ·rename_i u hk
   rw[hk]at hob
   obtain⟨cs',g1,g2,g3,g4,g5⟩:=q0M R I h3 hb
   have hc:c=κ k:=h2.resolve_left (by rw[hk];simp[Ob.isNone])
   exact⟨cs',g1,g2,⟨c,xs',h1,by rw[hc];exact hob,g3⟩,g4,g5⟩
  ·rename_i s hk
   rw[hk]at hob
   split at hb
   ·rename_i i hf;exact found (by rw[hk];rfl) hf hb
   ·rw[q0s rfl]at hb;cases hb
   ·rename_i hf;exact fresh (by rw[hk];rfl) hf hk hob hb
  ·rename_i v hk
   rw[hk]at hob
   split at hb
   ·rename_i i hf;exact found (by rw[hk];rfl) hf hb
   ·rw[q0s rfl]at hb;cases hb
   ·rename_i hf;exact fresh (by rw[hk];rfl) hf hk hob hb
  ·rw[q0s rfl]at hb;cases hb
end
def YS(H:Heap)(F:Nat->Prop)(cs:List C)(s:Nat->Y):Y->T->Prop
 | .poison,_=>True
 | .val u,t=> ∃v,t= .val v/\UV H F u v
 | .tup us,t=> ∃vs,t= .val (.tuple vs)/\UVs H F us vs
 | .agg ds,t=> ∃xs,t= .val (.agg xs)/\OcsS H F cs ds xs
 | .loc ds,t=> ∃xs,t= .loc xs/\OcsS H F cs ds xs
 | .h k,t=> ∃i c,k=base+i/\cs[i]? =some c/\t= .val (.c c)
 | .addr q c,t=>match s q with
  | .loc _=>t= .laddr q c
  |_=>True
 |_,_=>False
section
variable{H:Heap}{F:Nat->Prop}{z:Z}{κ:Nat->C}{b0:Nat}{cn:Cn}{cs cs':List C}{e:Env}
theorem YS.mono(h: ∀(i:Nat) c,cs[i]? =some c->cs'[i]? =some c){s:Nat->Y}{y:Y}{t:T}(hy:YS H F cs s y t):YS H F cs' s y t:=by
 cases y with
 |agg ds=>obtain⟨xs,h1,h2⟩:=hy;exact⟨xs,h1,h2.mono h⟩
 |loc ds=>obtain⟨xs,h1,h2⟩:=hy;exact⟨xs,h1,h2.mono h⟩
 |h k=>obtain⟨i,c,h1,h2,h3⟩:=hy;exact⟨i,c,h1,h i c h2,h3⟩
 |_=>exact hy
theorem CnI.fill(I:CnI H F z κ b0 cn cs){L k lo n':Nat}{b:Ob}{c:C}(hk:(k,lo,n',L)∈cn.keys)(hc:cs[L]? =some c)(hs:ObS H F cs b0 c b)(hown:b.live=true-> ∀id,idC c=some id->Owns z.o κ k id):CnI H F z κ b0 ⟨cn.keys,cn.obs.set L b,cn.bad⟩ cs:=by
 refine⟨by simp[I.len],fun q hq=>by simpa using I.val q hq,I.uniq,fun i b' c' h1 h2 h3 id h4=> ?_,fun i b' c' h1 h2=> ?_,I.nm⟩
 ·rw[List.getElem?_set]at h1
  split at h1
  ·rename_i hi
   subst hi
   split at h1
   ·cases h1;rw[hc]at h3;cases h3;exact⟨_,hk,rfl,hown h2 id h4⟩
   ·cases h1
  ·exact I.own i b' c' h1 h2 h3 id h4
 ·rw[List.getElem?_set]at h1
  split at h1
  ·rename_i hi
   subst hi
   split at h1
   ·cases h1;rw[hc]at h2;cases h2;exact hs
   ·cases h1
  ·exact I.ob i b' c' h1 h2
theorem Y0y{o:Nat->Ob}{y:Y}(h:cn.bad=true):(canonY o cn y).2.bad=true:=by
 cases y<;>simp only[canonY]<;>first |exact h |exact q0s h |(split<;>first |exact h |(split<;>first |exact h |exact q0s h))
theorem K1j{k lo n:Nat}{s:Sx}{i p m:Nat}(hob:ObR H F κ z.o b0 k (.sl s))(hb:s.b=true)(hκ:κ k= .slice i p m)(hl:lo+n<=s.es.length):ObS H F cs b0 (.slice i (p+lo*s.sz) n) (.sl (s.win lo n)):=by
 rcases hob with⟨h4,_⟩ |⟨_,i',p',xs,k1,k2,k3,k4,k5,k6⟩
 ·rw[hb]at h4;cases h4
 ·rw[hκ]at k1;cases k1
  have hle:(s.win lo n).es.length=n:=by simp only[Sx.win,List.length_take,List.length_drop];omega
  have h8:(lo+n)*s.sz<=s.es.length*s.sz:=Nat.mul_le_mul_right _ hl
  rw[Nat.add_mul]at h8
  refine .inr ⟨hb,i,p+lo*s.sz,xs,by rw[hle],k2,k3,k4,by rw[hle];show _+n*s.sz<=_;omega, ?_⟩
  rw[hle]
  have e1:((((xs.drop p).take (s.es.length*s.sz)).drop (lo*s.sz)).take (n*s.sz))=(xs.drop (p+lo*s.sz)).take (n*s.sz):=by
   rw[List.drop_take,List.take_take,List.drop_drop]
   congr 1;omega
  have:=(k6.drop lo).take n
  rw[e1]at this;exact this
theorem Z0P(R:SR b0 F κ z e H)(I:CnI H F z κ b0 cn cs){y:Y}{t:T}(hy:YR H F κ z.o z.s y t)(hb:(canonY z.o cn y).2.bad=false):
  ∃cs',(∀(i:Nat) c,cs[i]? =some c->cs'[i]? =some c)/\CnI H F z κ b0 (canonY z.o cn y).2 cs'/\YS H F cs' z.s (canonY z.o cn y).1 t:=by
 have same: ∀{y':Y},YS H F cs z.s y' t-> ∃cs',(∀(i:Nat) c,cs[i]? =some c->cs'[i]? =some c)/\CnI H F z κ b0 cn cs'/\YS H F cs' z.s y' t:=fun h=>⟨cs,fun _ _ h=>h,I,h⟩
 have last: ∀{c:C},(cs++[c])[cn.obs.length]? =some c:=fun{c}=>by rw[<-I.len,List.getElem?_append_right (nR _)];simp
 have add: ∀{k lo n':Nat} {b:Ob} {c:C},Cn.find k lo n' cn.keys=none->ObS H F (cs++[c]) b0 c b->(b.live=true-> ∀id,idC c=some id->Owns z.o κ k id)->Named z κ k lo n' c->t= .val (.c c)->
   ∃cs',(∀(i:Nat) c,cs[i]? =some c->cs'[i]? =some c)/\CnI H F z κ b0 ⟨(k,lo,n',cn.obs.length)::cn.keys,cn.obs++[b],cn.bad⟩ cs'/\YS H F cs' z.s (.h (base+cn.obs.length)) t:=by
  intro k lo n' b c hf hs hown hnm ht
  exact⟨_,fun i c h=>Q0k h,I.add (z0p hf) hs hown hnm,_,_,rfl,last,ht⟩
 cases y with
 |poison=>exact same trivial
 |val u=>exact same hy
 |tup us=>exact same hy
 |addr q c=>exact same hy
 |eaddr k j c=>exact same trivial
 |agg ds=>
  obtain⟨xs,h1,h2⟩:=hy
  simp only[canonY]at hb⊢
  obtain⟨cs',g1,g2,g3,_⟩:=q0M R I h2 hb
  exact⟨cs',g1,g2,xs,h1,g3⟩
 |loc ds=>
  obtain⟨xs,h1,h2⟩:=hy
  simp only[canonY]at hb⊢
  obtain⟨cs',g1,g2,g3,_⟩:=q0M R I h2 hb
  exact⟨cs',g1,g2,xs,h1,g3⟩
 |oaddr k c=>
  have hob:=R.ob k
  simp only[canonY]
  split
  ·rename_i v p hk
   rw[hk]at hob
   obtain⟨i0,g0,ht⟩:=hy.resolve_left (by rw[hk];simp[Ob.isNone])
   obtain⟨i,q,zz,xs,n,g1,g2,g3,g4,g5⟩:=hob.2
   rw[g0]at g1
   simp only[List.cons.injEq,C.ptr.injEq,and_true]at g1
   obtain⟨rfl,g1⟩:=g1
   exact same ⟨.c (.ptr i0 c),ht,rfl,i0,q,zz,xs,n,by rw[show q+(p+c)=c by omega],g2,g3,g4,g5⟩
  ·exact same trivial
 |w k lo n=>
  have hob:=R.ob k
  simp only[canonY]
  split
  ·rename_i s hk
   rw[hk]at hob
   simp only[YR,hk]at hy
   obtain⟨hsb,i,p,m,g1,g2,g3⟩:=hy
   split
   ·rename_i j hf
    obtain⟨c0,k1,k2⟩:=I.at_ (z0q hf)
    rcases k2 with⟨k2,_⟩ |⟨n2,s2,i2,p2,m2,k2,k3,k4,k5⟩
    ·cases k2
    ·cases k2
     rw[hk]at k3;cases k3
     rw[g1]at k4;cases k4
     exact same ⟨j,c0,rfl,k1,by rw[k5];exact g2⟩
   ·exact same trivial
   ·rename_i hf
    exact add hf (K1j hob hsb g1 g3) (fun hl id hid=>⟨by rw[hk];exact hsb,by rw[g1];cases hid;rfl⟩) (.inr ⟨n,s,i,p,m,rfl,hk,g1,rfl⟩) g2
  ·exact same trivial
 |h k=>
  have hob:=R.ob k
  have ht:(z.o k).isNone=false->t= .val (.c (κ k)):=fun hn=>hy.resolve_left (by rw[hn];simp)
  have found: ∀{i:Nat},(z.o k).isNone=false->Cn.find k 0 0 cn.keys=some (some i)-> ∃cs',(∀(i:Nat) c,cs[i]? =some c->cs'[i]? =some c)/\CnI H F z κ b0 cn cs'/\YS H F cs' z.s (.h (base+i)) t:=by
   intro i hn hf
   obtain⟨c0,k1,k2⟩:=I.at_ (z0q hf)
   exact same ⟨i,c0,rfl,k1,by rw[Q0l k2];exact ht hn⟩
  simp only[canonY]at hb⊢
  split at hb
  ·exact same trivial
  ·rename_i u hk
   rw[hk]at hob
   exact same ⟨.c (κ k),ht (by rw[hk];rfl),hob⟩
  ·rename_i s hk
   rw[hk]at hob
   split at hb
   ·rename_i i hf;exact found (by rw[hk];rfl) hf
   ·exact same trivial
   ·rename_i hf;exact add hf hob (fun hl id hid=>⟨by rw[hk];exact hl,hid⟩) (.inl ⟨rfl,rfl⟩) (ht (by rw[hk];rfl))
  ·rename_i v hk
   rw[hk]at hob
   split at hb
   ·rename_i i hf;exact found (by rw[hk];rfl) hf
   ·exact same trivial
   ·rename_i hf;exact add hf hob (fun hl id hid=>⟨by rw[hk];exact hl,hid⟩) (.inl ⟨rfl,rfl⟩) (ht (by rw[hk];rfl))
  ·rename_i ds hk
   rw[hk]at hob
   split at hb
   ·rename_i i hf;exact found (by rw[hk];rfl) hf
   ·exact same trivial
   ·rename_i hf
    obtain⟨i,zz,xs,g1,g2,g3,g4,g5⟩:=hob
    have I2:=I.add (k:=k) (lo:=0) (n':=0) (b:= .none) (c:=κ k) (z0p hf) trivial (fun h=>by cases h) (.inl ⟨rfl,rfl⟩)
    obtain⟨cs',k1,k2,k3,k4,k5⟩:=q0M R I2 g5 hb
    have hL:=k1 _ _ (last (c:=κ k))
    exact⟨cs',fun i c h=>k1 i c (Q0k h),k2.fill (k5 _ List.mem_cons_self) hL ⟨i,zz,xs,g1,g2,g3,g4,k3⟩ (fun _ id hid=>⟨by rw[hk];rfl,hid⟩),_,_,rfl,hL,ht (by rw[hk];rfl)⟩
end
section
variable{H:Heap}{F:Nat->Prop}{z:Z}{κ:Nat->C}{b0:Nat}{e:Env}
theorem Q0P: ∀{ps:List Nat} {cn:Cn},cn.bad=true->(canonS z ps cn).2.bad=true
 | [],cn,h=>h
 |p::ps,cn,h=>by simp only[canonS];exact Q0P (Y0y h)
theorem Y0z{o:Nat->Ob}{cn:Cn}{y:Y}{ds:List Oc}(h:(canonY o cn y).1= .loc ds): ∃ds',y= .loc ds':=by
 cases y with
 |loc cs=>exact⟨cs,rfl⟩
 |h k=>
  simp only[canonY]at h
  split at h<;>first |cases h |(split at h<;>cases h)
 |w k lo n=>
  simp only[canonY]at h
  split at h<;>first |cases h |(split at h<;>cases h)
 |oaddr k c=>
  simp only[canonY]at h
  split at h<;>cases h
 |_=>cases h
theorem w0j(R:SR b0 F κ z e H): ∀{ps:List Nat} {cn:Cn} {cs:List C},CnI H F z κ b0 cn cs->(canonS z ps cn).2.bad=false->
  ∃cs',(∀(i:Nat) c,cs[i]? =some c->cs'[i]? =some c)/\CnI H F z κ b0 (canonS z ps cn).2 cs'/\(canonS z ps cn).1.length=ps.length/\
   ∀(j p:Nat),ps[j]? =some p-> ∃y,(canonS z ps cn).1[j]? =some y/\YS H F cs' z.s y (e.get p)/\ ∀ds,y= .loc ds-> ∃ds',z.s p= .loc ds'
 | [],cn,cs,I,hb=>⟨cs,fun _ _ h=>h,I,rfl,fun j p h=>by simp at h⟩
 |p::ps,cn,cs,I,hb=>by
  simp only[canonS]at hb⊢
  have hb1:(canonY z.o cn (z.s p)).2.bad=false:=by
   cases hc:(canonY z.o cn (z.s p)).2.bad with
   |false=>rfl
   |true=>rw[Q0P hc]at hb;cases hb
  obtain⟨cs1,g1,g2,g3⟩:=Z0P R I (R.sl p) hb1
  obtain⟨cs2,k1,k2,k3,k4⟩:=w0j R g2 hb
  refine⟨cs2,fun i c h=>k1 i c (g1 i c h),k2,by simp[k3],fun j q hj=> ?_⟩
  cases j with
  |zero=>
   simp at hj;subst hj
   exact⟨_,rfl,g3.mono k1,fun ds hd=>Y0z hd⟩
  |succ j=>
   obtain⟨y,h1,h2,h3⟩:=k4 j q (by simpa using hj)
   exact⟨y,by simpa using h1,h2,h3⟩
theorem X0K{cs:List C}{i:Nat}{c:C}(h:cs[i]? =some c):kof cs (base+i)=c:=by
 simp only[kof,Nat.le_add_right,iT,Nat.add_sub_cancel_left,lG,h,Option.getD_some]
theorem OcsS.rel{cs:List C}{o:Nat->Ob}: ∀{ds:List Oc} {xs:List C},OcsS H F cs ds xs->OcsR H F (kof cs) o ds xs
 | [],xs,h=>h
 |d::ds,xs,⟨x,xs',h1,h2,h3⟩=>⟨x,xs',h1,by
   cases d with
   |u u=>exact h2
   |h k=>obtain⟨i,rfl,hi⟩:=h2;exact .inr (X0K hi).symm,OcsS.rel h3⟩
theorem OcsS.base{cs:List C}{k:Nat}(hk:k<Vm.base): ∀{ds:List Oc} {xs:List C},OcsS H F cs ds xs-> ∀c∈ds,¬c.refs k
 | [],xs,h,c,hc=>by cases hc
 |d::ds,xs,⟨x,xs',h1,h2,h3⟩,c,hc=>by
  rcases mC.1 hc with rfl |hc
  ·cases c with
   |u u=>exact fun h=>h
   |h k'=>obtain⟨i,rfl,_⟩:=h2;intro h;have h:Vm.base+i=k:=h;omega
  ·exact OcsS.base hk h3 c hc
theorem k1S{obs:List Ob}{k:Nat}{b:Ob}(h:oof obs k=b)(hb:b≠ .none): ∃i,k=Vm.base+i/\obs[i]? =some b:=by
 unfold oof at h
 split at h
 ·rename_i hk
  refine⟨k - Vm.base,by omega, ?_⟩
  rw[lG]at h
  cases hg:obs[k - Vm.base]? with
  |none=>rw[hg]at h;simp at h;exact absurd h.symm hb
  |some x=>rw[hg]at h;simp at h;rw[h]
 ·exact absurd h.symm hb
theorem ObS.rel{cs:List C}{o:Nat->Ob}{i:Nat}{c:C}(hc:cs[i]? =some c){b:Ob}(h:ObS H F cs b0 c b):ObR H F (kof cs) o b0 (Vm.base+i) b:=by
 have hk:=X0K hc
 cases b with
 |none=>trivial
 |fz u=>exact h.elim
 |sl s=>simp only[ObR,hk];exact h
 |ob ds=>obtain⟨i',zz,xs,h1,h2,h3,h4,h5⟩:=h;exact⟨i',zz,xs,by rw[hk,h1],h2,h3,h4,h5.rel⟩
 |oa v=>simp only[ObR,hk];exact h
theorem K0B(R:SR b0 F κ z e H){n:Nat}(hb:(canonS z (List.range n) ⟨[],[],false⟩).2.bad=false):
  ∃κ',SR b0 F κ' (Z.of (canonS z (List.range n) ⟨[],[],false⟩).1 (canonS z (List.range n) ⟨[],[],false⟩).2.obs) e H:=by
 have I0:CnI H F z κ b0 ⟨[],[],false⟩ []:=⟨rfl,fun q hq=>(by cases hq),fun q hq=>(by cases hq),fun i b c h=>by simp at h,fun i b c h=>by simp at h,fun q hq=>(by cases hq)⟩
 obtain⟨cs, -,I,hl,hs⟩:=w0j R I0 hb
 generalize canonS z (List.range n) ⟨[],[],false⟩=q at*
 obtain⟨ys,cn⟩:=q
 simp only at*
 rw[List.length_range]at hl
 have hslot: ∀p,(ys.getD p .poison= .poison)\/ ∃y,ys.getD p .poison=y/\YS H F cs z.s y (e.get p)/\ ∀ds,y= .loc ds-> ∃ds',z.s p= .loc ds':=fun p=>by
  by_cases hp:p<n
  ·obtain⟨y,h1,h2,h3⟩:=hs p p (by simp[hp])
   exact .inr ⟨y,by rw[lG,h1];rfl,h2,h3⟩
  ·left
   rw[lG,List.getElem?_eq_none (by omega)];rfl
 have hobs: ∀{k:Nat} {b:Ob},oof cn.obs k=b->b≠ .none-> ∃i c,k=Vm.base+i/\cn.obs[i]? =some b/\cs[i]? =some c/\ObS H F cs b0 c b:=by
  intro k b h hb
  obtain⟨i,h1,h2⟩:=k1S h hb
  have hi:i<cs.length:=by rw[I.len];exact(gE.1 h2).1
  have h3:=List.getElem?_eq_getElem hi
  exact⟨i,_,h1,h2,h3,I.ob i b _ h2 h3⟩
 have hown: ∀{k i:Nat},Owns (oof cn.obs) (kof cs) k i-> ∃q∈cn.keys,k=Vm.base+q.2.2.2/\Owns z.o κ q.1 i:=by
  intro k i h
  obtain⟨j,c,h1,h2,h3,h4⟩:=hobs rfl (fun h0=>by rw[Owns,h0]at h;cases h.1)
  rw[Owns,h1,X0K h3,<-h1]at h
  obtain⟨q,hq,g1,g2⟩:=I.own j _ c h2 h.1 h3 i h.2
  exact⟨q,hq,by rw[g1];exact h1,g2⟩
 refine⟨kof cs,fun p=> ?_,fun k=> ?_,fun k k' i h1 h2=> ?_,fun k i h1 h2=> ?_,R.flt,R.low,fun k _ h2 p=> ?_,fun k _ h2=>⟨fun j hj=> ?_, ?_⟩⟩
 ·show YR H F (kof cs) (oof cn.obs) (Z.of ys cn.obs).s (ys.getD p .poison) (e.get p)
  rcases hslot p with h |⟨y,h,h2,h3⟩
  ·rw[h];trivial
  ·rw[h]
   cases y with
   |poison=>trivial
   |val u=>exact h2
   |tup us=>exact h2
   |agg ds=>obtain⟨xs,g1,g2⟩:=h2;exact⟨xs,g1,g2.rel⟩
   |loc ds=>obtain⟨xs,g1,g2⟩:=h2;exact⟨xs,g1,g2.rel⟩
   |h k=>obtain⟨i,c,rfl,g2,g3⟩:=h2;exact .inr (by rw[X0K g2];exact g3)
   |addr q c=>
    simp only[YR]
    split
    ·rename_i ds hq
     rcases hslot q with h5 |⟨y,h5,h6,h7⟩
     ·have:(Z.of ys cn.obs).s q= .poison:=h5
      rw[this]at hq;cases hq
     ·have:(Z.of ys cn.obs).s q=y:=h5
      rw[hq]at this
      obtain⟨ds',h8⟩:=h7 ds this.symm
      simp only[YS,h8]at h2
      exact h2
    ·trivial
   |w k lo n=>exact h2.elim
   |oaddr k c=>exact h2.elim
   |eaddr k j c=>exact h2.elim
 ·show ObR H F (kof cs) (oof cn.obs) b0 k (oof cn.obs k)
  by_cases hn:oof cn.obs k= .none
  ·rw[hn];trivial
  ·obtain⟨i,c,rfl,h2,h3,h4⟩:=hobs rfl hn
   exact h4.rel h3
 ·obtain⟨q,hq,g1,g2⟩:=hown h1
  obtain⟨q',hq',g3,g4⟩:=hown h2
  have:=I.uniq q hq q' hq' (R.inj _ _ i g2 g4)
  subst this
  rw[g1,g3]
 ·obtain⟨q,hq,g1,g2⟩:=hown h1
  exact R.disj _ i g2 h2
 ·show¬(ys.getD p .poison).refs k
  rcases hslot p with h |⟨y,h,h2',h3⟩
  ·rw[h];exact fun h=>h
  ·rw[h]
   cases y with
   |poison=>exact fun h=>h
   |val u=>exact fun h=>h
   |tup us=>exact fun h=>h
   |agg ds=>obtain⟨xs,g1,g2⟩:=h2';exact fun⟨c,hc,hr⟩=>g2.base h2 c hc hr
   |loc ds=>obtain⟨xs,g1,g2⟩:=h2';exact fun⟨c,hc,hr⟩=>g2.base h2 c hc hr
   |h k'=>obtain⟨i,c,rfl,g2,g3⟩:=h2';intro h;have h:Vm.base+i=k:=h;omega
   |addr q c=>exact fun h=>h
   |w k lo n=>exact h2'.elim
   |oaddr k c=>exact h2'.elim
   |eaddr k j c=>exact h2'.elim
 ·have hj:(oof cn.obs j).refs k:=hj
  cases hb':oof cn.obs j with
  |ob ds=>
   rw[hb']at hj
   obtain⟨i,c,_,g2,g3,g4⟩:=hobs hb' (by simp)
   obtain⟨i',zz,xs,_,_,_,_,g5⟩:=g4
   obtain⟨d,hd,hr⟩:=hj
   exact g5.base h2 d hd hr
  |_=>rw[hb']at hj;exact hj
 ·show oof cn.obs k= .none
  unfold oof
  rw[if_neg (by omega)]
theorem SR.kill0: ∀{ds:List Nat} {z:Z} {e:Env},SR b0 F κ z e H->SR b0 F κ (Z.kill ds z) (Env.kill ds e) H
 | [],z,e,R=>R
 |d::ds,z,e,R=>by
  refine SR.kill0 (ds:=ds) (z:=z.put d .poison) (e:=e.put d .poison) ?_
  by_cases hd:d<e.length
  ·exact R.put hd (y:= .poison) (t:= .poison) trivial (fun _ _ _ h=>h) (fun cs h=>by cases h)
  ·have hget:e.get d= .poison:=by unfold Env.get;rw[lG,List.getElem?_eq_none (by omega)];rfl
   have hput:e.put d .poison=e:=by
    unfold Env.put
    rw[hget]
    exact List.set_eq_of_length_le (by omega)
   rw[hput]
   refine⟨fun p=> ?_,R.ob,R.inj,R.disj,R.flt,R.low,fun k h1 h2 p=> ?_,R.fo⟩
   ·rw[w0m]
    split
    ·trivial
    ·exact(R.sl p).mono (.refl _ _) (fun k _=>⟨rfl,Compat.refl _⟩) fun q c _ cs hq=>by
      rw[w0m]at hq
      split at hq
      ·cases hq
      ·exact⟨cs,hq⟩
   ·rw[w0m]
    split
    ·exact fun h=>h
    ·exact R.fs k h1 h2 p
theorem SR.clean(R:SR b0 F κ z e H)(ks ts:List Nat):SR b0 F κ (z.clean ks ts) (Env.clean ks ts e) H:=by
 have hget: ∀p,(Env.clean ks ts e).get p=T.clean ks ts p (e.get p):=fun p=>by
  have: ∀(e:Env) (k p:Nat),(Env.cleanFrom ks ts k e).get p=T.clean ks ts (k+p) (e.get p):=by
   intro e
   induction e with
   |nil=>intro k p;simp only[Env.cleanFrom,Env.get,List.getD_nil,T.clean];split<;>rfl
   |cons t e ih=>
    intro k p
    cases p with
    |zero=>rfl
    |succ p=>
     have:=ih (k+1) p
     simp only[Env.get,Env.cleanFrom,List.getD_cons_succ]at this⊢
     rw[this,show k+1+p=k+(p+1) by omega]
  have:=this e 0 p
  rw[Nat.zero_add]at this
  exact this
 have hloc: ∀{q:Nat} {cs:List Oc},(z.clean ks ts).s q= .loc cs->z.s q= .loc cs:=by
  intro q cs h
  simp only[Z.clean]at h
  split at h
  ·cases h
  ·split at h
   ·split at h<;>cases h
   ·rename_i cs' hq
    split at h
    ·cases h
    ·rw[hq];exact h
   ·exact h
 refine⟨fun p=> ?_,R.ob,R.inj,R.disj,R.flt,R.low,fun k h1 h2 p=> ?_,R.fo⟩
 ·rw[hget]
  have hR:=R.sl p
  show YR H F κ z.o (z.clean ks ts).s ((z.clean ks ts).s p) _
  have hsp:(z.clean ks ts).s p=if ks.contains p then .poison else match z.s p with
   | .addr r c=>if ks.contains r||ts.contains r then .poison else .addr r c
   | .loc cs=>if ts.contains p then .poison else .loc cs
   |y=>y:=rfl
  rw[hsp]
  by_cases hk:ks.contains p=true
  ·rw[if_pos hk];trivial
  ·rw[if_neg hk]
   have hval: ∀{v:V},T.clean ks ts p (.val v)= .val v:=fun{v}=>by simp only[T.clean,if_neg hk]
   have base: ∀y,YR H F κ z.o z.s y (e.get p)->(∀cs,y≠ .loc cs)->(∀q c,y≠ .addr q c)->YR H F κ z.o (z.clean ks ts).s y (T.clean ks ts p (e.get p)):=by
    intro y h hl ha
    cases y with
    |poison=>trivial
    |val u=>obtain⟨v,h1,h2⟩:=h;rw[h1,hval];exact⟨v,rfl,h2⟩
    |tup us=>obtain⟨v,h1,h2⟩:=h;rw[h1,hval];exact⟨v,rfl,h2⟩
    |agg ds=>obtain⟨v,h1,h2⟩:=h;rw[h1,hval];exact⟨v,rfl,h2⟩
    |loc ds=>exact absurd rfl (hl ds)
    |addr q c=>exact absurd rfl (ha q c)
    |h k=>exact h.imp id fun h=>by rw[h,hval]
    |w k lo n=>
     simp only[YR]at h⊢
     split
     ·rename_i x hx
      rw[hx]at h
      obtain⟨g1,i,q,m,g2,g3,g4⟩:=h
      exact⟨g1,i,q,m,g2,by rw[g3,hval],g4⟩
     ·trivial
    |oaddr k c=>exact h.imp id fun⟨i,h1,h2⟩=>⟨i,h1,by rw[h2,hval]⟩
    |eaddr k j c=>
     simp only[YR]at h⊢
     split
     ·rename_i x hx
      rw[hx]at h
      obtain⟨g1,i,q,m,g2,g3,g4⟩:=h
      exact⟨g1,i,q,m,g2,by rw[g3,hval],g4⟩
     ·trivial
   cases hy:z.s p with
   |addr r c=>
    rw[hy]at hR
    simp only
    split
    ·trivial
    ·rename_i hrc
     simp only[YR]at hR⊢
     split
     ·rename_i cs hq
      rw[hloc hq]at hR
      rw[hR]
      simp only[T.clean,if_neg hk,if_neg hrc]
     ·trivial
   |loc cs=>
    rw[hy]at hR
    simp only
    split
    ·trivial
    ·rename_i hts
     obtain⟨xs,h1,h2⟩:=hR
     exact⟨xs,by rw[h1];simp only[T.clean,if_neg hk,if_neg hts],h2⟩
   |_=>rw[hy]at hR;exact base _ hR (fun cs h=>by cases h) (fun q c h=>by cases h)
 ·have:=R.fs k h1 h2 p
  show¬((z.clean ks ts).s p).refs k
  simp only[Z.clean]
  split
  ·exact fun h=>h
  ·split
   ·split<;>exact fun h=>h
   ·rename_i cs hq
    rw[hq]at this
    split
    ·exact fun h=>h
    ·exact this
   ·exact this
end
def Fin(b0:Nat)(F:Nat->Prop)(H:Heap)(ms:List RM)(r:Rz)(v:V)(H':Heap):Prop:=
 ∃F':Nat->Prop,H.next<=H'.next/\(∀i,i<b0->H'.get i=H.get i)/\(∀i,F i->F' i)/\(∀i,F' i->F i\/b0<=i)/\(∀i,F' i->i<H'.next)/\RzR b0 H' F' ms r v
theorem Fin.trans{b0:Nat}{F F1:Nat->Prop}{H H1 H':Heap}{ms:List RM}{r:Rz}{v:V}{q:Prop}(h:Fin b0 F1 H1 ms r v H')(A:Adv b0 F H F1 H1 q):Fin b0 F H ms r v H':=by
 obtain⟨F',h1,h2,h3,h4,h5,h6⟩:=h
 exact⟨F',nT A.next h1,fun i hi=>(h2 i hi).trans (A.low i hi),fun i hi=>h3 i (A.le.sub i hi),fun i hi=>(h4 i hi).elim (A.from_ i) .inr,h5,h6⟩
section
variable{b0:Nat}{F:Nat->Prop}{κ:Nat->C}{z:Z}{e:Env}{H:Heap}
def YV(b0:Nat)(F:Nat->Prop)(κ:Nat->C)(z:Z)(H:Heap):Y->V->Prop
 | .h k,v=>(z.o k).isNone=false->v= .c (κ k)
 | .val u,v=>UV H (FO F z.o κ) u v
 |_,_=>False
def RM1(b0:Nat)(F:Nat->Prop)(κ:Nat->C)(z:Z)(H:Heap)(m:RM)(rz:Rz)(v:V):Prop:=
 match m with
 | .sl=> ∃s,rz= .sl s/\SlR b0 H F s v/\UV H (FO F z.o κ) s.fz v
 | .sls=> ∃s,rz= .sl s/\scals s.es=true/\SlR b0 H F s v/\(s.b=true-> ∀i p n,v= .c (.slice i p n)->FO F z.o κ i)
 | .sc=> ∃u,rz= .val u/\u.scal=true/\UV H (FO F z.o κ) u v
 | .va=> ∃u,rz= .val u/\UV H (FO F z.o κ) u v
theorem SlR.uv{n0:Nat}{H:Heap}{F F':Nat->Prop}{s:Sx}{v:V}(h:SlR n0 H F s v)(m: ∀i,F i->F' i)(hF:s.b=true-> ∀i p n,v= .c (.slice i p n)->F' i):UV H F' s.fz v:=by
 rcases h with⟨g1,g2,rfl⟩ |⟨g1,i,p,cs,rfl,g3,g4,g5,g6,g7,g8⟩
 ·exact⟨rfl, .inl ⟨g1,g2,rfl⟩⟩
 ·exact⟨rfl, .inr ⟨g1,i,p,cs,s.sz,rfl,hF g1 i p _ rfl,g6,g7,g8.mono ⟨m,fun _ _=>rfl⟩⟩⟩
def ymU(z:Z)(y:Y):Option U:=match y with
 | .val u=>some u
 | .h k=>z.lk k
 |_=>none
def ymS(z:Z)(y:Y):Option Sx:=match y with
 | .h k=>match z.o k with
  | .sl s=>some s
  |_=>none
 | .val u=>if u.isNilSl=true then some .nil else none
 |_=>none
theorem Z0Q(R:SR b0 F κ z e H){y:Y}{u:U}(hu:ymU z y=some u){v:V}(hv:YV b0 F κ z H y v):UV H (FO F z.o κ) u v:=by
 cases y with
 |val w=>cases hu;exact hv
 |h k=>
  obtain⟨g1,g2,g3⟩:=R.lk (show z.lk k=some u from hu)
  rw[hv g1];exact⟨g2,g3⟩
 |_=>cases hu
theorem z0D(R:SR b0 F κ z e H){y:Y}{s:Sx}(hs:ymS z y=some s){v:V}(hv:YV b0 F κ z H y v):SlR b0 H F s v/\(s.b=true-> ∀i p n,v= .c (.slice i p n)->FO F z.o κ i):=by
 unfold ymS at hs
 split at hs
 ·rename_i k
  split at hs
  ·rename_i s' hk
   cases hs
   have hob:=R.ob k
   rw[hk]at hob
   have:v= .c (κ k):=hv (by rw[hk];rfl)
   subst this
   rcases hob with⟨g1,g2,g3⟩ |⟨g1,i,p,cs,g2,g3,g4,g5,g6,g7⟩
   ·exact⟨.inl ⟨g1,g2,by rw[g3]⟩,fun h=>by rw[g1]at h;cases h⟩
   ·refine⟨.inr ⟨g1,i,p,cs,by rw[g2],g3,g4,R.disj k i ⟨by rw[hk];exact g1,by rw[g2];rfl⟩,g5,g6,g7⟩,fun _ i' p' n' h=> ?_⟩
    rw[g2]at h;cases h
    exact .inr ⟨k,by rw[hk];exact g1,by rw[g2];rfl⟩
  ·cases hs
 ·split at hs
  ·rename_i hn
   cases hs
   have:=k0c (show UV H (FO F z.o κ) _ v from hv) hn
   subst this
   exact⟨.inl ⟨rfl,rfl,rfl⟩,fun h=>by cases h⟩
  ·cases hs
 ·cases hs
theorem K0C(R:SR b0 F κ z e H){m:RM}{y:Y}{K:Rz->YRs}{r:Rz}(h:ymode z m y K=some r): ∃rz,K rz=some r/\ ∀v,YV b0 F κ z H y v->RM1 b0 F κ z H m rz v:=by
 cases m with
 |sl=>
  obtain⟨s,h1,h2⟩:=oB.1 (show(ymS z y).bind (fun s=>K (.sl s))=some r from h)
  exact⟨_,h2,fun v hv=>⟨s,rfl,(z0D R h1 hv).1,(z0D R h1 hv).1.uv (fun _ h=> .inl h) (z0D R h1 hv).2⟩⟩
 |sls=>
  obtain⟨s,h1,h2⟩:=oB.1 (show(ymS z y).bind (fun s=>if scals s.es=true then K (.sl s)else none)=some r from h)
  split at h2
  ·rename_i hsc
   exact⟨_,h2,fun v hv=>⟨s,rfl,hsc,(z0D R h1 hv).1,(z0D R h1 hv).2⟩⟩
  ·cases h2
 |sc=>
  obtain⟨u,h1,h2⟩:=oB.1 (show(ymU z y).bind (fun u=>if u.scal=true then K (.val u)else none)=some r from h)
  split at h2
  ·rename_i hsc
   exact⟨_,h2,fun v hv=>⟨u,rfl,hsc,Z0Q R h1 hv⟩⟩
  ·cases h2
 |va=>
  obtain⟨u,h1,h2⟩:=oB.1 (show(ymU z y).bind (fun u=>K (.val u))=some r from h)
  exact⟨_,h2,fun v hv=>⟨u,rfl,Z0Q R h1 hv⟩⟩
theorem K0D(R:SR b0 F κ z e H){rs:Res}{K:Y->YRs}{r:Rz}(hK: ∀k,(z.o k).isNone=true->K (.h k)=none)(h:yres1 z rs K=some r): ∃y v,K y=some r/\res1 e H rs=some v/\YV b0 F κ z H y v:=by
 have up: ∀i,F i->FO F z.o κ i:=fun _ h=> .inl h
 have cell: ∀{cs:List Oc} {xs:List C} {c:Nat} {w:Option V},OcsR H F κ z.o cs xs->(∀x,xs[c]? =some x->w=some (.c x))->ldC z cs c .c (fun y _=>K y)=some r-> ∃y v,K y=some r/\w=some v/\YV b0 F κ z H y v:=by
  intro cs xs c w hr hw h
  unfold ldC at h
  obtain⟨oc,hoc,h⟩:=oB.1 h
  obtain⟨x,hx,hor⟩:=hr.get hoc
  split at h
  ·rename_i u
   exact⟨_,_,h,hw x hx,hor.1,hor.2.mono ⟨up,fun _ _=>rfl⟩⟩
  ·rename_i k
   refine⟨_,_,h,hw x hx,fun hn=> ?_⟩
   rw[hor.resolve_left (by rw[hn];simp)]
 have cells: ∀{cs:List Oc} {xs:List C} {c n:Nat} {w:Option V},OcsR H F κ z.o cs xs->(c+n<=xs.length->w=some (.agg ((xs.drop c).take n)))->(if c+n<=cs.length then(z.lkC ((cs.drop c).take n)).bind fun us=>K (.val (.st us))else none)=some r-> ∃y v,K y=some r/\w=some v/\YV b0 F κ z H y v:=by
  intro cs xs c n w hr hw h
  split at h
  ·rename_i hl
   obtain⟨us,hus,h⟩:=oB.1 h
   exact⟨_,_,h,hw (by rw[<-hr.length];exact hl),us,rfl,R.lkC hus ((hr.drop c).take n)⟩
  ·cases h
 cases rs with
 |t p=>
  simp only[yres1]at h
  have hs:=R.sl p
  have other:((yl z (.t p)).bind fun u=>K (.val u))=some r-> ∃y v,K y=some r/\res1 e H (.t p)=some v/\YV b0 F κ z H y v:=by
   intro h
   obtain⟨u,hu,h⟩:=oB.1 h
   obtain⟨v,h1,h2⟩:=R.yl hu
   exact⟨_,v,h,h1,h2⟩
  split at h
  ·rename_i k hp
   rw[hp]at hs
   rcases hs with hs |hs
   ·rw[hK k hs]at h;cases h
   ·exact⟨_, .c (κ k),h,by simp only[res1,ev,hs],fun _=>rfl⟩
  ·exact other h
 |cell1 a=>
  simp only[yres1]at h
  have hl: ∀{i o:Nat} {x:C},(∀{R2:Type} (Kl' Ko':Nat->Nat->Option R2),placeK e (.t a) Kl' Ko'=Ko' i o)->H.ld i o=some x->res1 e H (.cell1 a)=some (.c x):=fun hp hx=>by
   simp only[res1];rw[hp,hx];rfl
  rcases R.yptr h with⟨q,c,cs,xs,h1,h2,h3,h4,h5⟩ |⟨k,c,i,h1,h2,h3,h4⟩ |⟨k,j,c,s,i,p,m,h1,_⟩ |⟨v,o,i,q,zz,cs,n,h1,h2,h3,h4,h5,h6⟩
  ·rw[h2]at h1
   exact cell h4 (fun x hx=>by simp only[res1];rw[h5];simp only[locCells,h3,oS,hx]) h1
  ·have hob:=R.ob k
   split at h1
   ·rename_i cs hk
    rw[hk]at hob
    obtain⟨i',zz,xs,g1,g2,g3,g4,g5⟩:=hob
    rw[h3]at g1;cases g1
    exact cell g5 (fun x hx=>hl h4 (K0q g4 hx)) h1
   ·cases h1
  ·cases h1
  ·obtain⟨x,hx,h1⟩:=oB.1 h1
   obtain⟨c0,k1,k2,k3⟩:=z0N h5 hx
   exact⟨_,_,h1,hl h6 (K0q h3 (z0O k1)),k2,k3.mono ⟨up,fun _ _=>rfl⟩⟩
 |cells a n=>
  simp only[yres1]at h
  have hl: ∀{i o zz:Nat} {cs:List C},(∀{R2:Type} (Kl' Ko':Nat->Nat->Option R2),placeK e (.t a) Kl' Ko'=Ko' i o)->H.get i=some (.cells zz cs)->o+n<=cs.length->res1 e H (.cells a n)=some (.agg ((cs.drop o).take n)):=fun hp hg hx=>by
   simp only[res1];rw[hp,X0y hg hx];rfl
  have part: ∀{v w:U} {i q c m zz:Nat} {cs:List C},(∀{R2:Type} (Kl' Ko':Nat->Nat->Option R2),placeK e (.t a) Kl' Ko'=Ko' i (q+c))->H.get i=some (.cells zz cs)->q+m<=cs.length->UC H F v ((cs.drop q).take m)->v.part c n=some w->K (.val w)=some r-> ∃y v,K y=some r/\res1 e H (.cells a n)=some v/\YV b0 F κ z H y v:=by
   intro v w i q c m zz cs hp hg hq hv hf h
   obtain⟨g1,us,g2,g4⟩:=k0G hv hf
   obtain⟨k1,k2⟩:=k0d hq g1
   rw[k1]at g4
   rw[g2]at h
   exact⟨_,_,h,hl hp hg k2,us,rfl,g4.mono ⟨up,fun _ _=>rfl⟩⟩
  rcases R.yptr h with⟨q,c,cs,xs,h1,h2,h3,h4,h5⟩ |⟨k,c,i,h1,h2,h3,h4⟩ |⟨k,j,c,s,i,p,m,h1,_⟩ |⟨v,o,i,q,zz,cs,m,h1,h2,h3,h4,h5,h6⟩
  ·rw[h2]at h1
   exact cells h4 (fun hx=>by simp only[res1];rw[h5];simp only[locCells,h3,oS,if_pos hx]) h1
  ·have hob:=R.ob k
   split at h1
   ·rename_i cs hk
    rw[hk]at hob
    obtain⟨i',zz,xs,g1,g2,g3,g4,g5⟩:=hob
    rw[h3]at g1;cases g1
    exact cells g5 (fun hx=>hl h4 g4 hx) h1
   ·rename_i v hk
    rw[hk]at hob
    obtain⟨i',zz,xs,g1,g2,g3,g4,g5⟩:=hob
    rw[h3]at g1;cases g1
    obtain⟨f,hf,h1⟩:=oB.1 h1
    exact part (q:=0) (c:=c) (m:=xs.length) (fun Kl' Ko'=>by rw[Nat.zero_add];exact h4 Kl' Ko') g4 (by simp) (by simpa using g5) hf h1
   ·cases h1
  ·cases h1
  ·obtain⟨f,hf,h1⟩:=oB.1 h1
   exact part h6 h3 h4 h5 hf h1
theorem Y0A{m:RM}{k:Nat}{K:Rz->YRs}(h:(z.o k).isNone=true):ymode z m (.h k) K=none:=by
 have hk:z.o k= .none:=by cases hk:z.o k<;>rw[hk]at h<;>first |rfl |cases h
 have hlk:z.lk k=none:=by simp only[Z.lk,Z.look,hk]
 cases m<;>simp only[ymode,hk,hlk,Option.bind_none]
theorem Q0m(R:SR b0 F κ z e H){rs:Res}{m:RM}{K:Rz->YRs}{r:Rz}(h:yres1 z rs (fun y=>ymode z m y K)=some r): ∃rz v,K rz=some r/\res1 e H rs=some v/\RM1 b0 F κ z H m rz v:=by
 obtain⟨y,v,h1,h2,h3⟩:=K0D R (fun k hk=>Y0A hk) h
 obtain⟨rz,k1,k2⟩:=K0C R h1
 exact⟨rz,v,k1,h2,k2 v h3⟩
theorem RM1.um{m:RM}{rz:Rz}{v:V}{u:U}(h:RM1 b0 F κ z H m rz v)(hu:rz.toU=some u):UmR b0 H (FO F z.o κ) m u v:=by
 cases m with
 |sl=>obtain⟨s,rfl,h1,h2⟩:=h;cases hu;exact h2
 |sls=>
  obtain⟨s,rfl,h1,h2,h3⟩:=h
  cases hu
  refine⟨s,rfl,h1,h2.imp id fun⟨g1,i,p,cs,g2,g3,g4,g5,g6,g7,g8⟩=>⟨g1,i,p,cs,g2,g3,h3 g1 i p _ g2,g6,g7,g8.mono ⟨fun _ h=> .inl h,fun _ _=>rfl⟩⟩⟩
 |sc=>obtain⟨w,rfl,h1,h2⟩:=h;cases hu;exact⟨h1,h2⟩
 |va=>obtain⟨w,rfl,h2⟩:=h;cases hu;exact h2
theorem k0L(R:SR b0 F κ z e H): ∀{rs:List Res} {ms:List RM} {K:List U->YRs} {r:Rz},yresAll z rs ms K=some r-> ∃us vs,K us=some r/\resAll e H rs=some vs/\UmRs b0 H (FO F z.o κ) ms us vs/\vs.length=rs.length/\rs.length=ms.length
 | [],[],K,r,h=>⟨[],[],h,rfl,rfl,rfl,rfl⟩
 |rs::rss,m::ms,K,r,h=>by
  simp only[yresAll]at h
  obtain⟨rz,v,h1,h2,h3⟩:=Q0m R h
  obtain⟨u,hu,h1⟩:=oB.1 h1
  obtain⟨us,vs,k1,k2,k3,k4,k5⟩:=k0L R h1
  exact⟨u::us,v::vs,k1,by simp only[resAll,h2,k2,oS],⟨v,vs,rfl,h3.um hu,k3⟩,by simp[k4],by simp[k5]⟩
 | [],m::ms,K,r,h=>by cases h
 |rs::rss,[],K,r,h=>by cases h
theorem K1k(R:SR b0 F κ z e H){i:Nat}(h:FO F z.o κ i):i<H.next/\(F i\/b0<=i):=by
 rcases h with h |⟨k,hk⟩
 ·exact⟨R.flt i h, .inl h⟩
 ·have:=(R.ob k).id hk.1 hk.2;exact⟨this.2.1, .inr this.1⟩
theorem J0M(R:SR b0 F κ z e H){ms:List RM}{rf:RFunc}{r:Rz}(h:yfinish ms rf z=some r): ∃v,finish rf e H=some (v,H)/\Fin b0 F H ms r v H:=by
 have fin1: ∀{v:V},RzR b0 H F ms r v->Fin b0 F H ms r v H:=fun h=>⟨F,nR _,fun _ _=>rfl,fun _ h=>h,fun _ h=> .inl h,R.flt,h⟩
 have finO: ∀{v:V},RzR b0 H (FO F z.o κ) ms r v->Fin b0 F H ms r v H:=fun h=>⟨_,nR _,fun _ _=>rfl,fun _ h=> .inl h,fun i h=>(K1k R h).2,fun i h=>(K1k R h).1,h⟩
 unfold yfinish at h
 split at h
 ·rename_i r1 m hr
  obtain⟨rz,v,h1,h2,h3⟩:=Q0m R h
  cases h1
  refine⟨v,by simp only[finish,hr,resAll,h2,oS], ?_⟩
  cases m with
  |sl=>obtain⟨s,rfl,k1,_⟩:=h3;exact fin1 k1
  |sls=>obtain⟨s,rfl,k1,k2,_⟩:=h3;exact fin1 ⟨k2,k1⟩
  |sc=>obtain⟨u,rfl,k1,k2⟩:=h3;exact finO ⟨k1,k2⟩
  |va=>obtain⟨u,rfl,k2⟩:=h3;exact finO k2
 ·rename_i ms rs ms' hne
  obtain⟨us,vs,h1,h2,h3,h4,h5⟩:=k0L R h
  cases h1
  have hn1: ∀m,ms≠[m]:=by
   intro m hm
   subst hm
   simp at h5
   obtain⟨a,ha⟩:=List.length_eq_one_iff.1 h5
   exact hne a m ha rfl
  have hv1: ∀a,vs≠[a]:=by
   intro a hv
   subst hv
   have:ms.length=1:=by rw[<-h5,<-h4];rfl
   obtain⟨m,hm⟩:=List.length_eq_one_iff.1 this
   exact hn1 m hm
  refine⟨.tuple vs, ?_,finO ?_⟩
  ·simp only[finish,h2,oS]
  ·unfold RzR
   split
   ·rename_i m;exact absurd rfl (hn1 m)
   ·exact⟨vs,rfl,h3⟩
end
section
variable(b0 n:Nat)(ms:List RM)
def Goes(F:Nat->Prop)(H:Heap)(r:Rz)(o:Rs):Prop:= ∃v H',o=some (v,H')/\Fin b0 F H ms r v H'
def KR(K:YKT)(K':KT):Prop:= ∀fl z e H F κ r,SR b0 F κ z e H->n<=e.length->K fl z=some r->Goes b0 ms F H r (K' fl e H)
def GR(g:Z->YRs)(g':Env->Heap->Rs):Prop:= ∀z e H F κ r,SR b0 F κ z e H->n<=e.length->g z=some r->Goes b0 ms F H r (g' e H)
def JR(run:YRunL)(jump:Nat->Env->Heap->Rs):Prop:= ∀l ys obs e H F κ r,SR b0 F κ (Z.of ys obs) e H->n<=e.length->run l ys obs=some r->Goes b0 ms F H r (jump l e H)
end
section
variable{b0 n:Nat}{ms:List RM}{run:YRunL}{jump:Nat->Env->Heap->Rs}{K:YKT}{K':KT}
theorem k0e(J:JR b0 n ms run jump){l:Nat}{dead:List Nat}{z:Z}{e:Env}{H:Heap}{F:Nat->Prop}{κ:Nat->C}{r:Rz}(R:SR b0 F κ z e H)(hn:n<=e.length)(h:yjump n run l dead z=some r):Goes b0 ms F H r (jump l (Env.kill dead e) H):=by
 unfold yjump at h
 simp only at h
 split at h
 ·cases h
 ·rename_i hb
  obtain⟨κ',R'⟩:=K0B (R.kill0 (ds:=dead)) (n:=n) (by simpa using hb)
  exact J l _ _ _ H F κ' r R' (by rw[k0K];exact hn) h
theorem z0r(J:JR b0 n ms run jump)(h:KR b0 n ms K K')(j:Option (Nat×List Nat)):KR b0 n ms (yjoinK n run j K) (joinK jump j K'):=by
 intro fl z e H F κ r R hn hr
 cases j with
 |none=>exact h fl z e H F κ r R hn hr
 |some x=>
  obtain⟨l,dead⟩:=x
  cases fl with
  |normal=>exact k0e J R hn hr
  |exit id=>exact h _ z e H F κ r R hn hr
theorem Q0n(J:JR b0 n ms run jump)(h:KR b0 n ms K K')(l:Nat)(dead:List Nat):KR b0 n ms (yloopK n run l dead K) (loopK jump l dead K'):=by
 intro fl z e H F κ r R hn hr
 cases fl with
 |normal=>exact k0e J R hn hr
 |exit id=>exact h _ z e H F κ r R hn hr
theorem w0k(h:KR b0 n ms K K')(id:Nat):KR b0 n ms (yblockK id K) (blockK id K'):=by
 intro fl z e H F κ r R hn hr
 cases fl with
 |normal=>exact h _ z e H F κ r R hn hr
 |exit i=>
  simp only[yblockK]at hr
  simp only[blockK]
  split at hr
  ·rename_i hi;rw[if_pos hi];exact h _ z e H F κ r R hn hr
  ·rename_i hi;rw[if_neg hi];exact h _ z e H F κ r R hn hr
theorem Q0Q{g:Z->YRs}{g':Env->Heap->Rs}(hg:GR b0 n ms g g')(h:KR b0 n ms K K'):KR b0 n ms (yseqK g K) (seqK g' K'):=by
 intro fl z e H F κ r R hn hr
 cases fl with
 |normal=>exact hg z e H F κ r R hn hr
 |exit id=>exact h _ z e H F κ r R hn hr
theorem Goes.adv{F F1:Nat->Prop}{H H1:Heap}{r:Rz}{o:Rs}{q:Prop}(h:Goes b0 ms F1 H1 r o)(A:Adv b0 F H F1 H1 q):Goes b0 ms F H r o:=by
 obtain⟨v,H',h1,h2⟩:=h
 exact⟨v,H',h1,h2.trans A⟩
end
section
variable{lim b0 n:Nat}{vcall:CallT}{md:FuncId->List RM}{ycall:YCallT}{ms:List RM}{run:YRunL}{jump:Nat->Env->Heap->Rs}{fin:Z->YRs}{fin':Env->Heap->Rs}
 (hlim:lim<=b0) (C0:CallsOK lim vcall md ycall) (J:JR b0 n ms run jump) (hfin:GR b0 n ms fin fin')
include hlim C0 J hfin
theorem q0N: ∀(c:RC) {K:YKT} {K':KT},KR b0 n ms K K'->GR b0 n ms (fun z=>yexec n md ycall run fin c z K) (fun e H=>exec lim vcall jump fin' c e H K')
 | .skip,K,K',h=>fun z e H F κ r R hn hr=>h _ z e H F κ r R hn hr
 | .ops o,K,K',h=>fun z e H F κ r R hn hr=>by
  simp only[yexec]at hr
  obtain⟨z1,k1,e1,H1,F1,κ1,g1,g2,g3,g4⟩:=q0v (lim:=lim) (vcall:=vcall) hlim C0 o R hn (fun f hf=>by cases hf) hr
  simp only[exec]
  rw[g1]
  exact(h _ z1 e1 H1 F1 κ1 r g2 (by rw[g4];exact hn) k1).adv g3
 | .dops p ks ts o,K,K',h=>fun z e H F κ r R hn hr=>by
  simp only[yexec]at hr
  split at hr
  ·rename_i hc
   have hl:(Env.clean ks ts e).length=e.length:=by
    unfold Env.clean
    have: ∀(e:Env) (k:Nat),(Env.cleanFrom ks ts k e).length=e.length:=by
     intro e
     induction e with
     |nil=>intro k;rfl
     |cons t e ih=>intro k;simp[Env.cleanFrom,ih]
    exact this e 0
   obtain⟨z1,k1,e1,H1,F1,κ1,g1,g2,g3,g4⟩:=q0v (lim:=lim) (vcall:=vcall) hlim C0 o (R.clean ks ts) (by rw[hl];exact hn) (fun f hf=>by cases hf) hr
   simp only[exec]
   rw[if_pos (by
    rw[List.all_eq_true]at hc⊢
    intro x hx
    have:=hc x hx
    simp only[dE]at this⊢;omega),g1]
   exact(h _ z1 e1 H1 F1 κ1 r g2 (by rw[g4,hl];exact hn) k1).adv g3
  ·cases hr
 | .seq a b,K,K',h=>fun z e H F κ r R hn hr=>by
  simp only[yexec]at hr
  simp only[exec]
  exact q0N a (Q0Q (q0N b h) h) z e H F κ r R hn hr
 | .cond x a b j,K,K',h=>fun z e H F κ r R hn hr=>by
  simp only[yexec]at hr
  obtain⟨c,hc,hr⟩:=oB.1 hr
  simp only[exec,R.ylB hc,oS]
  split at hr
  ·rename_i hb;rw[if_pos hb];exact q0N a (z0r J h j) z e H F κ r R hn hr
  ·rename_i hb;rw[if_neg hb];exact q0N b (z0r J h j) z e H F κ r R hn hr
 | .block id c,K,K',h=>fun z e H F κ r R hn hr=>by
  simp only[yexec]at hr
  simp only[exec]
  exact q0N c (w0k h id) z e H F κ r R hn hr
 | .loop l dead c,K,K',h=>fun z e H F κ r R hn hr=>by
  simp only[yexec]at hr
  simp only[exec]
  exact k0e J R hn hr
 | .exit id,K,K',h=>fun z e H F κ r R hn hr=>h _ z e H F κ r R hn hr
 | .ret,K,K',h=>fun z e H F κ r R hn hr=>by
  simp only[yexec]at hr
  simp only[exec]
  exact hfin z e H F κ r R hn hr
 | .stuck,K,K',h=>fun z e H F κ r R hn hr=>by simp[yexec]at hr
theorem q0X(l:Nat): ∀(c:RC) {K:YKT} {K':KT},KR b0 n ms K K'->
  (∃g g',yfind n md ycall run fin l c K=some g/\find lim vcall jump fin' l c K'=some g'/\GR b0 n ms g g')\/(yfind n md ycall run fin l c K=none/\find lim vcall jump fin' l c K'=none)
 | .skip,K,K',h=> .inr ⟨rfl,rfl⟩
 | .ops o,K,K',h=> .inr ⟨rfl,rfl⟩
 | .dops p ks ts o,K,K',h=> .inr ⟨rfl,rfl⟩
 | .exit id,K,K',h=> .inr ⟨rfl,rfl⟩
 | .ret,K,K',h=> .inr ⟨rfl,rfl⟩
 | .stuck,K,K',h=> .inr ⟨rfl,rfl⟩
 | .seq a b,K,K',h=>by
  simp only[yfind,find]
  rcases q0X l a (Q0Q (q0N hlim C0 J hfin b h) h)with⟨g,g',h1,h2,h3⟩ |⟨h1,h2⟩
  ·exact .inl ⟨g,g',by rw[h1];rfl,by rw[h2];rfl,h3⟩
  ·rcases q0X l b h with⟨g,g',h3,h4,h5⟩ |⟨h3,h4⟩
   ·exact .inl ⟨g,g',by rw[h1,h3];rfl,by rw[h2,h4];rfl,h5⟩
   ·exact .inr ⟨by rw[h1,h3];rfl,by rw[h2,h4];rfl⟩
 | .cond x a b j,K,K',h=>by
  simp only[yfind,find]
  by_cases hj:j.map (·.1)=some l
  ·simp only[hj,iT]
   exact .inl ⟨_,_,rfl,rfl,fun z e H F κ r R hn hr=>h _ z e H F κ r R hn hr⟩
  ·simp only[hj,iF]
   rcases q0X l a (z0r J h j)with⟨g,g',h1,h2,h3⟩ |⟨h1,h2⟩
   ·exact .inl ⟨g,g',by rw[h1];rfl,by rw[h2];rfl,h3⟩
   ·rcases q0X l b (z0r J h j)with⟨g,g',h3,h4,h5⟩ |⟨h3,h4⟩
    ·exact .inl ⟨g,g',by rw[h1,h3];rfl,by rw[h2,h4];rfl,h5⟩
    ·exact .inr ⟨by rw[h1,h3];rfl,by rw[h2,h4];rfl⟩
 | .block id c,K,K',h=>by
  simp only[yfind,find]
  exact q0X l c (w0k h id)
 | .loop l' dead c,K,K',h=>by
  simp only[yfind,find]
  by_cases hl:l'=l
  ·simp only[hl,iT]
   exact .inl ⟨_,_,rfl,rfl,q0N hlim C0 J hfin c (Q0n J h l dead)⟩
  ·simp only[hl,iF]
   exact q0X l c (Q0n J h l' dead)
end
theorem k1T(run:RunT)(f:FuncId)(vs:List V)(H:Heap):callOf run f vs H=run f 0 (vs.map .val) H:=rfl
section
variable{vext:FuncId->Env->Heap->Rs}{yext:YCallT}{prog yprog:FuncId->Option RFunc}{lim:Nat}{md:FuncId->List RM}
theorem K0E{H:Heap}{F:Nat->Prop}{us:List U}{vs:List V}(hF: ∀i,F i->i<H.next)(hv:UVs H F us vs)(m:Nat):SR H.next F (fun _=> .junk) (Z.of (us.map .val) []) (vs.map .val++List.replicate m .poison) H:=by
 have hlen: ∀{us:List U} {vs:List V},UVs H F us vs->us.length=vs.length:=by
  intro us
  induction us with
  |nil=>intro vs h;rw[show vs=[]from h];rfl
  |cons u us ih=>intro vs ⟨v,vs',h1,_,h3⟩;rw[h1];simp[ih h3]
 have hget: ∀{us:List U} {vs:List V},UVs H F us vs-> ∀{p:Nat} {u:U},us[p]? =some u-> ∃v,vs[p]? =some v/\UV H F u v:=by
  intro us
  induction us with
  |nil=>intro vs h p u hp;simp at hp
  |cons u0 us ih=>
   intro vs ⟨v,vs',h1,h2,h3⟩ p u hp
   cases p with
   |zero=>simp at hp;subst hp;exact⟨v,by rw[h1];rfl,h2⟩
   |succ p=>simp at hp;obtain⟨w,k1,k2⟩:=ih h3 hp;exact⟨w,by rw[h1];simpa using k1,k2⟩
 have ho: ∀k,(Z.of (us.map .val) []).o k= .none:=fun k=>by
  show(if base<=k then([]:List Ob).getD (k - base) .none else .none)= .none
  split<;>simp
 have hs: ∀p,(Z.of (us.map .val) []).s p= .poison\/ ∃u,us[p]? =some u/\(Z.of (us.map .val) []).s p= .val u:=fun p=>by
  show(us.map Y.val).getD p .poison= .poison\/ ∃u,us[p]? =some u/\(us.map Y.val).getD p .poison= .val u
  rw[lG,List.getElem?_map]
  cases us[p]? with
  |none=>exact .inl rfl
  |some u=>exact .inr ⟨u,rfl,rfl⟩
 have nown: ∀k i,¬Owns (Z.of (us.map .val) []).o (fun _=> .junk) k i:=fun k i h=>by rw[Owns,ho]at h;cases h.1
 refine⟨fun p=> ?_,fun k=>by rw[ho];trivial,fun k k' i h _=>absurd h (nown k i),fun k i h=>absurd h (nown k i),hF,nR _,fun k _ _ p=> ?_,fun k _ _=>⟨fun j h=>by rw[ho]at h;exact h,ho k⟩⟩
 ·rcases hs p with h |⟨u,h1,h2⟩
  ·rw[h];trivial
  ·rw[h2]
   obtain⟨v,k1,k2⟩:=hget hv h1
   refine⟨v, ?_,k2⟩
   have hp:p<vs.length:=(gE.1 k1).1
   unfold Env.get
   rw[lG,List.getElem?_append_left (by simpa using hp),List.getElem?_map,k1]
   rfl
 ·rcases hs p with h |⟨u,h1,h2⟩
  ·rw[h];exact fun h=>h
  ·rw[h2];exact fun h=>h
theorem z1h: ∀{ys:List Y} {us:List U},toUs ys=some us->ys=us.map .val
 | [],us,h=>by cases h;rfl
 |y::ys,us,h=>by
  cases y with
  |val u=>
   simp only[toUs]at h
   obtain⟨us',h1,h2⟩:=oB.1 h
   cases h2
   rw[z1h h1];rfl
  |_=>cases h
theorem Q0o: ∀{us us':List U},us.map Y.val=us'.map Y.val->us=us'
 | [],[],_=>rfl
 | [],_::_,h=>by cases h
 |_::_,[],h=>by cases h
 |u::us,u'::us',h=>by
  simp only[List.map_cons,List.cons.injEq,Y.val.injEq]at h
  rw[h.1,Q0o h.2]
theorem K0F{yrunT:YRunT}(hp: ∀f rf,yprog f=some rf->prog f=some rf)(hx:CallsOK lim (callOf (run vext prog lim)) md yext)
  (C0:CallsOK lim (callOf (run vext prog lim)) md (ycallOf yrunT)) (J: ∀f rf b0,lim<=b0->yprog f=some rf->JR b0 rf.ntmps (md f) (yrunT f) (run vext prog lim f)):
  CallsOK lim (callOf (run vext prog lim)) md (ycallOf (ystepR yext yprog md yrunT))/\ ∀f rf b0,lim<=b0->yprog f=some rf->JR b0 rf.ntmps (md f) (ystepR yext yprog md yrunT f) (run vext prog lim f):=by
 have hfin: ∀f rf b0,GR b0 rf.ntmps (md f) (yfinish (md f) rf) (finish rf):=fun f rf b0 z e H F κ r R hn hr=>by
  obtain⟨v,h1,h2⟩:=J0M R hr
  exact⟨v,H,h1,h2⟩
 have hend: ∀f rf b0,KR b0 rf.ntmps (md f) (yendK (md f) rf) (endK rf):=fun f rf b0 fl z e H F κ r R hn hr=>by
  cases fl with
  |normal=>exact hfin f rf b0 z e H F κ r R hn hr
  |exit id=>cases hr
 have zero: ∀f rf b0,lim<=b0->yprog f=some rf-> ∀ys obs e H F κ r,SR b0 F κ (Z.of ys obs) (e++List.replicate (rf.ntmps - e.length) .poison) H->ystepR yext yprog md yrunT f 0 ys obs=some r->Goes b0 (md f) F H r (run vext prog lim f 0 e H):=by
  intro f rf b0 hlim hf ys obs e H F κ r R hr
  rw[q0f]
  simp only[ystepR,hf,iT]at hr
  simp only[stepR,hp f rf hf,iT]
  exact q0N hlim C0 (J f rf b0 hlim hf) (hfin f rf b0) rf.body (hend f rf b0) _ _ H F κ r R (by simp;omega) hr
 refine⟨fun f us r hr H F vs hl hF hv=> ?_,fun f rf b0 hlim hf l ys obs e H F κ r R hn hr=> ?_⟩
 ·cases hf:yprog f with
  |none=>
   simp only[ycallOf,ystepR,hf,iT]at hr
   obtain⟨us',h1,h2⟩:=oB.1 hr
   have:=Q0o (z1h h1)
   subst this
   exact hx f us r h2 H F vs hl hF hv
  |some rf=>
   have R:=K0E hF hv (rf.ntmps - (vs.map T.val).length)
   obtain⟨v,H',h1,F',h2,h3,h4,h5,h6,h7⟩:=zero f rf H.next hl hf _ _ _ H F _ r R hr
   exact⟨v,H',F',h1,h2,h3,h4,h5,h6,h7⟩
 ·by_cases h0:l=0
  ·subst h0
   refine zero f rf b0 hlim hf ys obs e H F κ r ?_ hr
   rw[Nat.sub_eq_zero_of_le hn,List.replicate_zero,List.append_nil]
   exact R
  ·rw[q0f]
   simp only[ystepR,hf,if_neg h0]at hr
   simp only[stepR,hp f rf hf,if_neg h0]
   rcases q0X hlim C0 (J f rf b0 hlim hf) (hfin f rf b0) l rf.body (hend f rf b0)with⟨g,g',h1,h2,h3⟩ |⟨h1,h2⟩
   ·rw[h1]at hr
    rw[h2]
    exact h3 _ e H F κ r R hn hr
   ·rw[h1]at hr;cases hr
theorem k0f(hp: ∀f rf,yprog f=some rf->prog f=some rf)(hx:CallsOK lim (callOf (run vext prog lim)) md yext): ∀k,CallsOK lim (callOf (run vext prog lim)) md (ycallOf (yrunN yext yprog md k))/\ ∀f rf b0,lim<=b0->yprog f=some rf->JR b0 rf.ntmps (md f) (yrunN yext yprog md k f) (run vext prog lim f)
 | 0=>⟨fun f us r h=>(by cases h),fun f rf b0 _ _ l ys obs e H F κ r _ _ h=>(by cases h)⟩
 |k+1=>K0F hp hx (k0f hp hx k).1 (k0f hp hx k).2
theorem j0X(hp: ∀f rf,yprog f=some rf->prog f=some rf)(hx:CallsOK lim (callOf (run vext prog lim)) md yext):CallsOK lim (callOf (run vext prog lim)) md (ycallOf (yrun yext yprog md)):=by
 intro f us r h
 simp only[ycallOf,yrun]at h
 split at h
 ·rename_i hk
  exact(k0f hp hx hk.choose).1 f us r h
 ·cases h
end
mutual
def TyN:NT->U->Prop
 | .int k,u=> ∃n,u= .c (.int k n)/\(Lit.int k n).wf=true
 | .bool,u=> ∃b,u= .c (.bool b)
 | .str,u=> ∃s,u= .c (.str s)/\s.size<=maxLen
 | .sl row,u=> ∃b es,u= .sl b es/\(b=false->es=[])/\es.length<=maxLen/\ ∀e∈es,TyR row e
def TyR:List NT->U->Prop
 | [n],u=>TyN n u
 |ns,u=> ∃us,u= .st us/\TyNs ns us
def TyNs:List NT->List U->Prop
 | [],us=>us=[]
 |n::ns,us=> ∃u r,us=u::r/\TyN n u/\TyNs ns r
end
theorem TyN.nst: ∀{n:NT} {u:U},TyN n u->u.isSt=false
 | .int k,u,h=>by simp only[TyN]at h;obtain⟨m,rfl,_⟩:=h;rfl
 | .bool,u,h=>by simp only[TyN]at h;obtain⟨m,rfl⟩:=h;rfl
 | .str,u,h=>by simp only[TyN]at h;obtain⟨m,rfl,_⟩:=h;rfl
 | .sl row,u,h=>by simp only[TyN]at h;obtain⟨b,es,rfl,_⟩:=h;rfl
section
variable{H:Heap}{F:Nat->Prop}(hF: ∀i,i<H.next->F i)
include hF
mutual
theorem cellN.uc: ∀{n:NT} {c:C},cellN H n c-> ∃u,TyN n u/\UC H F u [c]
 | .int k,c,h=>by
  simp only[cellN]at h
  obtain⟨m,rfl,hw⟩:=h
  exact⟨.c (.int k m),by simp only[TyN];exact⟨m,rfl,hw⟩,rfl,rfl⟩
 | .bool,c,h=>by
  simp only[cellN]at h
  obtain⟨m,rfl⟩:=h
  exact⟨.c (.bool m),by simp only[TyN];exact⟨m,rfl⟩,rfl,rfl⟩
 | .str,c,h=>by
  simp only[cellN]at h
  obtain⟨m,rfl,hw⟩:=h
  exact⟨.c (.str m),by simp only[TyN];exact⟨m,rfl,hw⟩,rfl,rfl⟩
 | .sl row,c,h=>by
  simp only[cellN]at h
  obtain⟨rows,⟨_,h1,h2⟩,h3,h4⟩:=h
  have key: ∀rows:List (List C),(∀r∈rows,rowN H row r)-> ∃es:List U,es.length=rows.length/\(∀e∈es,TyR row e)/\EsR H F es row.length rows.flatten:=by
   intro rows
   induction rows with
   |nil=>intro _;exact⟨[],rfl,fun _ h=>(by cases h),rfl⟩
   |cons r rows ih=>
    intro hr
    obtain⟨es,g1,g2,g3⟩:=ih fun r hr'=>hr r (by simp[hr'])
    have hr0:=hr r (by simp)
    have hl:=rowN.length hr0
    obtain⟨e,k1,k2⟩:=rowN.ur hr0
    exact⟨e::es,by simp[g1],fun e' he=>by
     rcases mC.1 he with rfl |he
     ·exact k1
     ·exact g2 e' he,r,rows.flatten,by simp,hl,k2,g3⟩
  obtain⟨es,g1,g2,g3⟩:=key rows h3
  rcases h2 with⟨rfl,rfl⟩ |⟨i,o,cs,rfl,_,k1,k2,k3,k4⟩
  ·have:es=[]:=List.length_eq_zero_iff.1 (by simpa using g1)
   subst this
   exact⟨.sl false [],by simp only[TyN];exact⟨false,[],rfl,fun _=>rfl,Nat.zero_le _,g2⟩, .inl ⟨rfl,rfl,rfl⟩⟩
  ·exact⟨.sl true es,by simp only[TyN];exact⟨true,es,rfl,(fun h=>by cases h),by rw[g1];exact h4,g2⟩, .inr ⟨rfl,i,o,cs,row.length,by rw[g1],hF i k1,k2,by rw[g1];exact k3,by rw[g1,k4];exact g3⟩⟩
theorem rowN.ur: ∀{ns:List NT} {r:List C},rowN H ns r-> ∃e,TyR ns e/\UC H F e r
 | [],r,h=>by
  simp only[rowN]at h
  subst h
  exact⟨.st [],by simp only[TyR,TyNs];exact⟨[],rfl,rfl⟩,rfl⟩
 | [n],r,h=>by
  simp only[rowN]at h
  obtain⟨c,r',rfl,h1,rfl⟩:=h
  obtain⟨u,k1,k2⟩:=cellN.uc h1
  exact⟨u,by simp only[TyR];exact k1,k2⟩
 |n::n'::ns,r,h=>by
  have h':=h
  rw[rowN]at h'
  obtain⟨c,r',rfl,h1,h2⟩:=h'
  obtain⟨u,k1,k2⟩:=cellN.uc h1
  obtain⟨us,k3,k4⟩:=rowN.us h2
  exact⟨.st (u::us),by simp only[TyR];exact⟨_,rfl,by rw[TyNs];exact⟨u,us,rfl,k1,k3⟩⟩,c,r',rfl,k1.nst,k2,k4⟩
theorem rowN.us: ∀{ns:List NT} {r:List C},rowN H ns r-> ∃us,TyNs ns us/\UCs H F us r
 | [],r,h=>by
  simp only[rowN]at h
  subst h
  exact⟨[],by simp only[TyNs],rfl⟩
 |n::ns,r,h=>by
  rw[rowN]at h
  obtain⟨c,r',rfl,h1,h2⟩:=h
  obtain⟨u,k1,k2⟩:=cellN.uc h1
  obtain⟨us,k3,k4⟩:=rowN.us h2
  exact⟨u::us,by rw[TyNs];exact⟨u,us,rfl,k1,k3⟩,c,r',rfl,k1.nst,k2,k4⟩
end
end
def TyP:PN->U->Prop
 | .one n,u=>TyN n u
 | .struct ns,u=> ∃us,u= .st us/\TyNs ns us
def TyPs:List PN->List U->Prop
 | [],us=>us=[]
 |d::ds,us=> ∃u r,us=u::r/\TyP d u/\TyPs ds r
theorem paramsN.us{H:Heap}{F:Nat->Prop}(hF: ∀i,i<H.next->F i): ∀{ds:List PN} {vs:List V},paramsN H ds vs-> ∃us,TyPs ds us/\UVs H F us vs
 | [],vs,h=>⟨[],rfl,h⟩
 |d::ds,vs,⟨v,r,h1,h2,h3⟩=>by
  obtain⟨us,k1,k2⟩:=paramsN.us hF h3
  cases d with
  |one n=>
   obtain⟨c,rfl,h4⟩:=h2
   obtain⟨u,g1,g2⟩:=cellN.uc hF h4
   exact⟨u::us,⟨u,us,rfl,g1,k1⟩,_,r,h1,⟨g1.nst,g2⟩,k2⟩
  |struct ns=>
   obtain⟨cs,rfl,h4⟩:=h2
   obtain⟨ws,g1,g2⟩:=rowN.us hF h4
   exact⟨.st ws::us,⟨_,us,rfl,⟨ws,rfl,g1⟩,k1⟩,_,r,h1,⟨ws,rfl,g2⟩,k2⟩
def yExt(A:FuncId):YCallT:=fun f us=>if f=A then(match us with
 | []=>some (.val (.c (.bool true)))
 |_=>none)else none
theorem J1n{A:FuncId}{prog:FuncId->Option RFunc}(hnone:prog A=none){md:FuncId->List RM}(hA:md A=[.sc])(lim:Nat):CallsOK lim (callOf (run (awExt A) prog lim)) md (yExt A):=by
 intro f us r h H F vs hl hF hv
 unfold yExt at h
 split at h
 ·rename_i hf
  subst hf
  cases us with
  |cons u us=>cases h
  |nil=>
   cases h
   have:vs=[]:=hv
   subst this
   refine⟨.c (.bool true),H,F, ?_,nR _,fun _ _=>rfl,fun _ h=>h,fun _ h=> .inl h,hF, ?_⟩
   ·rw[k1T,q0f]
    simp[stepR,hnone,awExt]
   ·rw[hA]
    exact⟨rfl,rfl,rfl,rfl⟩
 ·cases h
end Go.Proofs.Ytglkhoamnmiolaa.Vm
