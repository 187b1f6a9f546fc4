/- - -/
import Derived.Test.YtglkhoamnmiolaaTq
import Derived.Test.YtglkhoamnmiolaaKm
import Derived.Test.YtglkhoamnmiolaaTx
import Derived.Test.YtglkhoamnmiolaaWf
set_option linter.all false
namespace Go.Proofs.Ytglkhoamnmiolaa.R
open Go Go.Proofs.Ytglkhoamnmiolaa.Vm
theorem w0o{α β:Type}{g:α->β}(hg: ∀x y,g x=g y->x=y): ∀{l l':List α},l.map g=l'.map g->l=l'
 | [],[],_=>rfl
 | [],_::_,h=>by cases h
 |_::_,[],h=>by cases h
 |x::l,y::l',h=>by
  simp only[List.map_cons,List.cons.injEq]at h
  rw[hg x y h.1,w0o hg h.2]
theorem w0J{x y:Int}(h:uI x=uI y):x=y:=by injection h with h;injection h
theorem J0b{b b':Bool}{l l':List Int}(h:uIs b l=uIs b' l'):b=b'/\l=l':=by
 injection h with h1 h2
 exact⟨h1,w0o (fun x y h=>w0J h) h2⟩
theorem J1q{x y:E4}(h:uE x=uE y):x=y:=by
 unfold uE at h
 injection h with h
 simp only[List.cons.injEq,and_true]at h
 obtain⟨h1,h2,h3,h4⟩:=h
 cases x;cases y
 simp only[E4.mk.injEq]
 exact⟨w0J h1,w0J h2,w0J h3,w0J h4⟩
theorem q1e{b b':Bool}{l l':List E4}(h:uEs b l=uEs b' l'):b=b'/\l=l':=by
 injection h with h1 h2
 exact⟨h1,w0o (fun x y h=>J1q h) h2⟩
theorem Z0U{b b':Bool}{l l':List (Bool×List Int)}(h:uLs b l=uLs b' l'):b=b'/\l=l':=by
 injection h with h1 h2
 exact⟨h1,w0o (fun x y h=>Prod.ext (J0b h).1 (J0b h).2) h2⟩
open Classical in
noncomputable def pickZ(P:List U->Rz->Prop)(us:List U):Option Rz:=if h: ∃r,P us r then some h.choose else none
theorem J0c{P:List U->Rz->Prop}(one: ∀us r r',P us r->P us r'->r=r'){us:List U}{r:Rz}(h:P us r):pickZ P us=some r:=by
 have hx: ∃r,P us r:=⟨r,h⟩
 unfold pickZ
 rw[dif_pos hx,one us _ _ hx.choose_spec h]
theorem J0d{P:List U->Rz->Prop}{us:List U}{r:Rz}(h:pickZ P us=some r):P us r:=by
 unfold pickZ at h
 split at h
 ·rename_i hx
  cases h
  exact hx.choose_spec
 ·cases h
theorem J0e{lim:Nat}{vcall:CallT}{md:FuncId->List RM}{A:FuncId}{f1:List U->Option Rz}{f2:YCallT}(h1:CallsOK lim vcall md (fun f us=>if f=A then f1 us else none))(h2:CallsOK lim vcall md f2):CallsOK lim vcall md (fun f us=>if f=A then f1 us else f2 f us):=by
 intro f us r h H F vs hl hF hv
 by_cases hf:f=A
 ·exact h1 f us r (by simp only[if_pos hf]at h⊢;exact h) H F vs hl hF hv
 ·exact h2 f us r (by simp only[if_neg hf]at h;exact h) H F vs hl hF hv
def RevP(us:List U)(r:Rz):Prop:= ∃b n rows,us=[uLs b rows]/\n<=1000000/\Table n rows/\r= .val (uLs true (revT rows))
theorem w1Q(us:List U)(r r':Rz)(h:RevP us r)(h':RevP us r'):r=r':=by
 obtain⟨b,n,rows,rfl,_,_,rfl⟩:=h
 obtain⟨b',n',rows',e,_,_,rfl⟩:=h'
 simp only[List.cons.injEq,and_true]at e
 rw[(Z0U e).2]
noncomputable def yExtA:YCallT:=fun f us=>if f=82 then pickZ RevP us else yExt 8 f us
theorem J0f(lim:Nat):CallsY lim yExtA:=by
 refine J0e ?_ (Q1r (A:=8) rfl rfl lim)
 intro f us r h H F vs hl hF hv
 by_cases hf:f=82
 ·subst hf
  simp only[iT]at h
  obtain⟨b,n,rows,rfl,hn,hT,rfl⟩:=J0d h
  obtain⟨v1,_,rfl,g1,rfl⟩:=hv
  obtain⟨c,rfl,g2⟩:=g1.one rfl
  obtain⟨H',k1,k2,k3⟩:=w1q (M:=MH lim) (n:=n) hl hF hn hT g2
  have hmd:md 82=[.va]:=by kernel_rfl
  refine⟨.c (.slice H.next 0 n),H',fun i=>F i\/(H.next<=i/\i<H'.next),k1,k2.next,k2.old,fun i hi=> .inl hi,fun i hi=>hi.imp id And.left,fun i hi=>hi.elim (fun h=>nL (hF i h) k2.next) And.right, ?_⟩
  rw[hmd]
  have:=k3.uc (F:=fun i=>F i\/(H.next<=i/\i<H'.next)) fun i h1 h2=> .inr ⟨h1,h2⟩
  rw[j0e,<-hT.1]at this
  refine⟨rfl, ?_⟩
  rw[hT.1]at this
  unfold revT
  rw[hT.1]
  exact this
 ·simp only[if_neg hf]at h
  cases h
noncomputable def MA:YM:=⟨yExtA⟩
theorem J1r:HasRev MA:=fun b n rows hn hT=>⟨revT rows,by
 unfold y82 yrunM
 rw[w0W]
 have:Vm.ystepR MA.ext yprog md (Vm.yrun MA.ext yprog md) 82 0 [.val (uLs b rows)] []=yExtA 82 [uLs b rows]:=by kernel_rfl
 rw[this]
 show pickZ RevP [uLs b rows]=_
 exact J0c w1Q ⟨b,n,rows,rfl,hn,hT,rfl⟩,k1J hT⟩
theorem W0G{H:Heap}{F:Nat->Prop}{a:Int}{u1 u2 u3:U}{v:V}(h:UV H F (.st [uI a,u1,u2,u3]) v): ∃c1 c2 c3,v= .agg [.int .i64 a,c1,c2,c3]/\UC H F u1 [c1]/\UC H F u2 [c2]/\UC H F u3 [c3]:=by
 cases v with
 |c c=>exact absurd h.1 (by simp[U.isSt])
 |tuple _=>exact h.elim
 |agg xs=>
  obtain⟨us,e,hx⟩:=h
  cases e
  obtain⟨c0,_,rfl,_,k0,d1,_,rfl,_,k1,d2,_,rfl,_,k2,d3,_,rfl,_,k3,rfl⟩:=hx
  have:c0= .int .i64 a:=by have:=k0.2;simpa using this
  exact⟨d1,d2,d3,by rw[this],k1,k2,k3⟩
def UsP(us:List U)(r:Rz):Prop:= ∃(a:Nat) (b1:Bool) (l:List Int) (b2:Bool) (es:List E4) (b3:Bool) (xs:List (Bool×List Int)),
 us=[.st [uI (a:Int),uIs b1 l,uEs b2 es,uLs b3 xs]]/\aErr (a:Int) l es xs=0/\l.length<=1000000/\(∀x∈xs,x.2.length<=1000000)/\r= .val (setU (usefulL a l es xs))
def TrP(us:List U)(r:Rz):Prop:= ∃(a:Nat) (b1:Bool) (l:List Int) (b2:Bool) (es:List E4) (b3:Bool) (xs:List (Bool×List Int)),
 us=[.st [uI (a:Int),uIs b1 l,uEs b2 es,uLs b3 xs]]/\aErr (a:Int) l es xs=0/\l.length<=1000000/\(∀x∈xs,x.2.length<=1000000)/\r= .tup (trimR a l es xs)
theorem w1R(us:List U)(r r':Rz)(h:UsP us r)(h':UsP us r'):r=r':=by
 obtain⟨a,b1,l,b2,es,b3,xs,rfl,_,_,_,rfl⟩:=h
 obtain⟨a',d1,l',d2,es',d3,xs',e,_,_,_,rfl⟩:=h'
 simp only[List.cons.injEq,and_true,U.st.injEq]at e
 obtain⟨e0,e1,e2,e3⟩:=e
 have h0:=w0J e0
 have ha:a=a':=by omega
 rw[ha,(J0b e1).2,(q1e e2).2,(Z0U e3).2]
theorem w1S(us:List U)(r r':Rz)(h:TrP us r)(h':TrP us r'):r=r':=by
 obtain⟨a,b1,l,b2,es,b3,xs,rfl,_,_,_,rfl⟩:=h
 obtain⟨a',d1,l',d2,es',d3,xs',e,_,_,_,rfl⟩:=h'
 simp only[List.cons.injEq,and_true,U.st.injEq]at e
 obtain⟨e0,e1,e2,e3⟩:=e
 have h0:=w0J e0
 have ha:a=a':=by omega
 rw[ha,(J0b e1).2,(q1e e2).2,(Z0U e3).2]
theorem J1s(lim:Nat):CallsY lim (fun f us=>if f=40 then pickZ UsP us else none):=by
 intro f us r h H F vs hl hF hv
 by_cases hf:f=40
 ·subst hf
  simp only[iT]at h
  obtain⟨a,b1,l,b2,es,b3,xs,rfl,e1,e2,e3,rfl⟩:=J0d h
  obtain⟨v1,_,rfl,g1,rfl⟩:=hv
  obtain⟨c1,c2,c3,rfl,k1,k2,k3⟩:=W0G g1
  obtain⟨q1,q2,q3,q4,q5,q6⟩:=aErr_zero.1 e1
  simp only[btw,dE]at q1
  obtain⟨vc,H',F',z1,z2,z3⟩:=w1y (lim:=lim) (M:=MA) (J0f lim) J1r (H:=H) (F:=F) (a:=a) (l:=l) (es:=es) (xs:=xs)
   ⟨hl,hF,by omega,q2,q3,q4,k1,k2,k3,⟨e2,(sErr_zero.1 q5).1⟩,fun x hx=>⟨e3 x hx,(sErr_zero.1 (q6 x hx)).1⟩⟩
  have hmd:md 40=[.va]:=by kernel_rfl
  refine⟨.c vc,H',F',z1,z2.next,fun i hi=>z2.keep i hi (fun e=>by cases e),z2.sub,z2.new,z2.lt, ?_⟩
  rw[hmd]
  exact⟨rfl,z3⟩
 ·simp only[if_neg hf]at h
  cases h
theorem J1t(lim:Nat):CallsY lim (fun f us=>if f=64 then pickZ TrP us else none):=by
 intro f us r h H F vs hl hF hv
 by_cases hf:f=64
 ·subst hf
  simp only[iT]at h
  obtain⟨a,b1,l,b2,es,b3,xs,rfl,e1,e2,e3,rfl⟩:=J0d h
  obtain⟨v1,_,rfl,g1,rfl⟩:=hv
  obtain⟨c1,c2,c3,rfl,k1,k2,k3⟩:=W0G g1
  obtain⟨q1,q2,q3,q4,q5,q6⟩:=aErr_zero.1 e1
  simp only[btw,dE]at q1
  obtain⟨ws,H',F',z1,z2,z3⟩:=w1U (lim:=lim) (M:=MA) (J0f lim) (H:=H) (F:=F) (a:=a) (l:=l) (es:=es) (xs:=xs)
   ⟨hl,hF,by omega,q2,q3,q4,k1,k2,k3,⟨e2,(sErr_zero.1 q5).1⟩,fun x hx=>⟨e3 x hx,(sErr_zero.1 (q6 x hx)).1⟩⟩
  have hmd:md 64=[.va, .va]:=by kernel_rfl
  refine⟨.tuple ws,H',F',z1,z2.next,fun i hi=>z2.keep i hi (fun e=>by cases e),z2.sub,z2.new,z2.lt, ?_⟩
  rw[hmd]
  unfold trimR at z3⊢
  obtain⟨v0,_,rfl,w0,v1,_,rfl,w1,rfl⟩:=z3
  exact⟨_,rfl,v0,_,rfl,w0,v1,_,rfl,w1,rfl⟩
 ·simp only[if_neg hf]at h
  cases h
noncomputable def yExtC:YCallT:=fun f us=>if f=40 then pickZ UsP us else if f=64 then pickZ TrP us else yExtA f us
theorem z1N(lim:Nat):CallsY lim yExtC:=J0e (J1s lim) (J0e (J1t lim) (J0f lim))
noncomputable def MC:YM:=⟨yExtC⟩
def HasC(M:YM):Prop:= ∀us,M.ext 40 us=pickZ UsP us/\M.ext 64 us=pickZ TrP us
section
variable{M:YM}{a:Nat}{b1 b2 b3:Bool}{l:List Int}{es:List E4}{xs:List (Bool×List Int)}
theorem J1u(hM:HasC M)(e1:aErr (a:Int) l es xs=0)(e2:l.length<=1000000)(e3: ∀x∈xs,x.2.length<=1000000):y40 M (a:Int) (uIs b1 l) (uEs b2 es) (uLs b3 xs)=some (.val (setU (usefulL a l es xs))):=by
 unfold y40 yrunM
 rw[w0W]
 have:Vm.ystepR M.ext yprog md (Vm.yrun M.ext yprog md) 40 0 [.val (.st [.c (.int .i64 (a:Int)),uIs b1 l,uEs b2 es,uLs b3 xs])] []=M.ext 40 [.st [uI (a:Int),uIs b1 l,uEs b2 es,uLs b3 xs]]:=by kernel_rfl
 rw[this,(hM _).1]
 exact J0c w1R ⟨a,b1,l,b2,es,b3,xs,rfl,e1,e2,e3,rfl⟩
theorem J1v(hM:HasC M)(e1:aErr (a:Int) l es xs=0)(e2:l.length<=1000000)(e3: ∀x∈xs,x.2.length<=1000000):y64 M (a:Int) (uIs b1 l) (uEs b2 es) (uLs b3 xs)=some (.tup (trimR a l es xs)):=by
 unfold y64 yrunM
 rw[w0W]
 have:Vm.ystepR M.ext yprog md (Vm.yrun M.ext yprog md) 64 0 [.val (.st [.c (.int .i64 (a:Int)),uIs b1 l,uEs b2 es,uLs b3 xs])] []=M.ext 64 [.st [uI (a:Int),uIs b1 l,uEs b2 es,uLs b3 xs]]:=by kernel_rfl
 rw[this,(hM _).2]
 exact J0c w1S ⟨a,b1,l,b2,es,b3,xs,rfl,e1,e2,e3,rfl⟩
end
end Go.Proofs.Ytglkhoamnmiolaa.R
