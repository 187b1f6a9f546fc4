/- - -/
import Derived.Test.YtglkhoamnmiolaaKp
import Derived.Test.YtglkhoamnmiolaaWf
set_option linter.all false
namespace Go.Proofs.Ytglkhoamnmiolaa.R
open Go Go.Proofs.Ytglkhoamnmiolaa.Vm
theorem k0L{α β:Type}{g:α->β}(hg: ∀x y,g x=g y->x=y): ∀{l l':List α},l.map g=l'.map g->l=l'
 | [],[],_=>rfl
 | [],_::_,h=>by cases h
 |_::_,[],h=>by cases h
 |x::l,y::l',h=>by
  simp only[List.map_cons,List.cons.injEq]at h
  rw[hg x y h.1,k0L hg h.2]
theorem q0G{x y:Int}(h:uI x=uI y):x=y:=by injection h with h;injection h
theorem k0o{b b':Bool}{l l':List Int}(h:uIs b l=uIs b' l'):b=b'/\l=l':=by
 injection h with h1 h2
 exact⟨h1,k0L (fun x y h=>q0G h) h2⟩
theorem w1E{x y:E4}(h:uE x=uE y):x=y:=by
 unfold uE at h
 injection h with h
 simp only[List.cons.injEq,and_true]at h
 obtain⟨h1,h2,h3,h4⟩:=h
 cases x;cases y
 simp only[E4.mk.injEq]
 exact⟨q0G h1,q0G h2,q0G h3,q0G h4⟩
theorem X0F{b b':Bool}{l l':List E4}(h:uEs b l=uEs b' l'):b=b'/\l=l':=by
 injection h with h1 h2
 exact⟨h1,k0L (fun x y h=>w1E h) h2⟩
theorem Z0h{b b':Bool}{l l':List (Bool×List Int)}(h:uLs b l=uLs b' l'):b=b'/\l=l':=by
 injection h with h1 h2
 exact⟨h1,k0L (fun x y h=>Prod.ext (k0o h).1 (k0o h).2) h2⟩
open Classical in
noncomputable def pickZ(P:List U->Rz->Prop)(us:List U):Option Rz:=if h: ∃r,P us r then some h.choose else none
theorem Q0o{P:List U->Rz->Prop}(one: ∀us r r',P us r->P us r'->r=r'){us:List U}{r:Rz}(h:P us r):pickZ P us=some r:=by
 have hx: ∃r,P us r:=⟨r,h⟩
 unfold pickZ
 rw[dif_pos hx,one us _ _ hx.choose_spec h]
theorem Q0p{P:List U->Rz->Prop}{us:List U}{r:Rz}(h:pickZ P us=some r):P us r:=by
 unfold pickZ at h
 split at h
 ·rename_i hx
  cases h
  exact hx.choose_spec
 ·cases h
theorem Q0q{lim:Nat}{vcall:CallT}{md:FuncId->List RM}{A:FuncId}{f1:List U->Option Rz}{f2:YCallT}(h1:CallsOK lim vcall md (fun f us=>if f=A then f1 us else none))(h2:CallsOK lim vcall md f2):CallsOK lim vcall md (fun f us=>if f=A then f1 us else f2 f us):=by
 intro f us r h H F vs hl hF hv
 by_cases hf:f=A
 ·exact h1 f us r (by simp only[if_pos hf]at h⊢;exact h) H F vs hl hF hv
 ·exact h2 f us r (by simp only[if_neg hf]at h;exact h) H F vs hl hF hv
def RevP(us:List U)(r:Rz):Prop:= ∃b n rows,us=[uLs b rows]/\n<=1000000/\Table n rows/\r= .val (uLs true (revT rows))
theorem z1Y(us:List U)(r r':Rz)(h:RevP us r)(h':RevP us r'):r=r':=by
 obtain⟨b,n,rows,rfl,_,_,rfl⟩:=h
 obtain⟨b',n',rows',e,_,_,rfl⟩:=h'
 simp only[List.cons.injEq,and_true]at e
 rw[(Z0h e).2]
noncomputable def yExtA:YCallT:=fun f us=>if f=82 then pickZ RevP us else yExt 8 f us
theorem Q0r(lim:Nat):CallsY lim yExtA:=by
 refine Q0q ?_ (k1Q (A:=8) rfl rfl lim)
 intro f us r h H F vs hl hF hv
 by_cases hf:f=82
 ·subst hf
  simp only[iT]at h
  obtain⟨b,n,rows,rfl,hn,hT,rfl⟩:=Q0p h
  obtain⟨v1,_,rfl,g1,rfl⟩:=hv
  obtain⟨c,rfl,g2⟩:=g1.one rfl
  obtain⟨H',k1,k2,k3⟩:=z1V (M:=MH lim) (n:=n) hl hF hn hT g2
  have hmd:md 82=[.va]:=by kernel_rfl
  refine⟨.c (.slice H.next 0 n),H',fun i=>F i\/(H.next<=i/\i<H'.next),k1,k2.next,k2.old,fun i hi=> .inl hi,fun i hi=>hi.imp id And.left,fun i hi=>hi.elim (fun h=>nL (hF i h) k2.next) And.right, ?_⟩
  rw[hmd]
  have:=k3.uc (F:=fun i=>F i\/(H.next<=i/\i<H'.next)) fun i h1 h2=> .inr ⟨h1,h2⟩
  rw[q0X,<-hT.1]at this
  refine⟨rfl, ?_⟩
  rw[hT.1]at this
  unfold revT
  rw[hT.1]
  exact this
 ·simp only[if_neg hf]at h
  cases h
noncomputable def MA:YM:=⟨yExtA⟩
theorem w1F:HasRev MA:=fun b n rows hn hT=>⟨revT rows,by
 unfold y82 yrunM
 rw[w0w]
 have:Vm.ystepR MA.ext yprog md (Vm.yrun MA.ext yprog md) 82 0 [.val (uLs b rows)] []=yExtA 82 [uLs b rows]:=by kernel_rfl
 rw[this]
 show pickZ RevP [uLs b rows]=_
 exact Q0o z1Y ⟨b,n,rows,rfl,hn,hT,rfl⟩,k1U hT⟩
def AccP(us:List U)(r:Rz):Prop:= ∃(a:Int) (b1:Bool) (l:List Int) (b2:Bool) (es:List E4) (b3:Bool) (xs:List (Bool×List Int)) (b4:Bool) (w0:List Int) (b5:Bool) (w1:List Int) (v:Bool),
 us=[.st [uI a,uIs b1 l,uEs b2 es,uLs b3 xs], .st [uIs b4 w0,uIs b5 w1]]/\aErr a l es xs=0/\wErr w0 w1=0/\l.length<=1000000/\(∀x∈xs,x.2.length<=1000000)/\(v=true↔Acc (auL l es xs) (wrd w0 w1))/\r= .val (uB v)
theorem j1p(us:List U)(r r':Rz)(h:AccP us r)(h':AccP us r'):r=r':=by
 obtain⟨a,b1,l,b2,es,b3,xs,b4,w0,b5,w1,v,rfl,_,_,_,_,h1,rfl⟩:=h
 obtain⟨a',b1',l',b2',es',b3',xs',b4',w0',b5',w1',v',e,_,_,_,_,h2,rfl⟩:=h'
 simp only[List.cons.injEq,and_true,U.st.injEq]at e
 obtain⟨⟨_,e1,e2,e3⟩,e4,e5⟩:=e
 obtain⟨_,rfl⟩:=k0o e1
 obtain⟨_,rfl⟩:=X0F e2
 obtain⟨_,rfl⟩:=Z0h e3
 obtain⟨_,rfl⟩:=k0o e4
 obtain⟨_,rfl⟩:=k0o e5
 have:v=v':=by
  rw[Bool.eq_iff_iff];exact h1.trans h2.symm
 rw[this]
def OneP(us:List U)(r:Rz):Prop:= ∃(a:Int) (b1:Bool) (l:List Int) (b2:Bool) (es:List E4) (b3:Bool) (xs:List (Bool×List Int)),us=[.st [uI a,uIs b1 l,uEs b2 es,uLs b3 xs]]/\
 l.length<=1000000/\es.length<=1000000/\xs.length<=1000000/\(∀x∈xs,x.2.length<=1000000)/\r= .tup (oneR a l es xs)
theorem j1q{a:Int}{l:List Int}{es:List E4}{xs:List (Bool×List Int)}: ∃x y,oneR a l es xs=[x,y]:=by
 unfold oneR
 split
 ·split<;>exact⟨_,_,rfl⟩
 ·exact⟨_,_,rfl⟩
theorem j1r(us:List U)(r r':Rz)(h:OneP us r)(h':OneP us r'):r=r':=by
 obtain⟨a,b1,l,b2,es,b3,xs,rfl,_,_,_,_,rfl⟩:=h
 obtain⟨a',b1',l',b2',es',b3',xs',e,_,_,_,_,rfl⟩:=h'
 simp only[List.cons.injEq,and_true,U.st.injEq]at e
 obtain⟨e0,e1,e2,e3⟩:=e
 have:=q0G e0
 subst this
 obtain⟨_,rfl⟩:=k0o e1
 obtain⟨_,rfl⟩:=X0F e2
 obtain⟨_,rfl⟩:=Z0h e3
 rfl
theorem K0A{H:Heap}{F:Nat->Prop}{a:Int}{u1 u2 u3:U}{v:V}(h:UV H F (.st [uI a,u1,u2,u3]) v): ∃c1 c2 c3,v= .agg [.int .i64 a,c1,c2,c3]/\UC H F u1 [c1]/\UC H F u2 [c2]/\UC H F u3 [c3]:=by
 cases v with
 |c c=>exact absurd h.1 (by simp[U.isSt])
 |tuple _=>exact h.elim
 |agg xs=>
  obtain⟨us,e,hx⟩:=h
  cases e
  obtain⟨c0,_,rfl,_,k0,d1,_,rfl,_,k1,d2,_,rfl,_,k2,d3,_,rfl,_,k3,rfl⟩:=hx
  have:c0= .int .i64 a:=by have:=k0.2;simpa using this
  exact⟨d1,d2,d3,by rw[this],k1,k2,k3⟩
theorem K0B{H:Heap}{F:Nat->Prop}{u1 u2:U}{v:V}(h:UV H F (.st [u1,u2]) v): ∃c1 c2,v= .agg [c1,c2]/\UC H F u1 [c1]/\UC H F u2 [c2]:=by
 cases v with
 |c c=>exact absurd h.1 (by simp[U.isSt])
 |tuple _=>exact h.elim
 |agg xs=>
  obtain⟨us,e,hx⟩:=h
  cases e
  obtain⟨d1,_,rfl,_,k1,d2,_,rfl,_,k2,rfl⟩:=hx
  exact⟨d1,d2,rfl,k1,k2⟩
noncomputable def yExtB:YCallT:=fun f us=>if f=16 then pickZ AccP us else if f=33 then pickZ OneP us else yExtA f us
theorem z1Z(lim:Nat):CallsY lim (fun f us=>if f=16 then pickZ AccP us else none):=by
 intro f us r h H F vs hl hF hv
 by_cases hf:f=16
 ·subst hf
  simp only[iT]at h
  obtain⟨a,b1,l,b2,es,b3,xs,b4,w0,b5,w1,v,rfl,e1,e2,e3,e4,e5,rfl⟩:=Q0p h
  obtain⟨v1,_,rfl,g1,v2,_,rfl,g2,rfl⟩:=hv
  obtain⟨c1,c2,c3,rfl,k1,k2,k3⟩:=K0A g1
  obtain⟨d0,d1,rfl,k4,k5⟩:=K0B g2
  obtain⟨q1,q2,q3,q4,q5,q6⟩:=aErr_zero.1 e1
  obtain⟨q7,q8,q9⟩:=Y0m e2
  simp only[btw,dE]at q1
  obtain⟨n,rfl⟩:=iZ q1.1
  obtain⟨rr,H',z1,z2,z3⟩:=k1k (lim:=lim) (M:=MA) (Q0r lim) w1F (H:=H) (F:=F) (a:=n) (l:=l) (es:=es) (xs:=xs) (w0:=w0) (w1:=w1)
   ⟨hl,hF,by omega,q2,q3,q4,q7,q8,q9,k1,k2,k3,k4,k5,⟨e3,(sErr_zero.1 q5).1⟩,fun x hx=>⟨e4 x hx,(sErr_zero.1 (q6 x hx)).1⟩⟩
  have:rr=v:=by rw[Bool.eq_iff_iff];exact z3.trans e5.symm
  subst this
  have hmd:md 16=[.sc]:=by kernel_rfl
  refine⟨.c (.bool rr),H',F,z1,z2.next,fun i hi=>z2.keep i hi (fun e=>by cases e),z2.sub,z2.new,z2.lt, ?_⟩
  rw[hmd]
  exact⟨rfl,rfl,rfl,rfl⟩
 ·simp only[if_neg hf]at h
  cases h
theorem k1a(lim:Nat):CallsY lim (fun f us=>if f=33 then pickZ OneP us else none):=by
 intro f us r h H F vs hl hF hv
 by_cases hf:f=33
 ·subst hf
  simp only[iT]at h
  obtain⟨a,b1,l,b2,es,b3,xs,rfl,e1,e2,e3,e4,rfl⟩:=Q0p h
  obtain⟨v1,_,rfl,g1,rfl⟩:=hv
  obtain⟨c1,c2,c3,rfl,k1,k2,k3⟩:=K0A g1
  obtain⟨ws,H',F',z1,z2,z3⟩:=z1U (lim:=lim) (M:=MA) (Q0r lim) (H:=H) (F:=F) hl hF e1 e2 e3 e4 k1 k2 k3
  have hmd:md 33=[.va, .va]:=by kernel_rfl
  refine⟨.tuple ws,H',F',z1,z2.next,fun i hi=>z2.keep i hi (fun e=>by cases e),z2.sub,z2.new,z2.lt, ?_⟩
  rw[hmd]
  obtain⟨x,y,hxy⟩:=j1q (a:=a) (l:=l) (es:=es) (xs:=xs)
  rw[hxy]at z3⊢
  obtain⟨v0,_,rfl,y0,v1,_,rfl,y1,rfl⟩:=z3
  exact⟨_,rfl,v0,_,rfl,y0,v1,_,rfl,y1,rfl⟩
 ·simp only[if_neg hf]at h
  cases h
theorem j1s(lim:Nat):CallsY lim yExtB:=Q0q (z1Z lim) (Q0q (k1a lim) (Q0r lim))
noncomputable def MB:YM:=⟨yExtB⟩
end Go.Proofs.Ytglkhoamnmiolaa.R
