/- - -/
import Derived.Test.YtglkhoamnmiolaaKk
set_option linter.all false
namespace Go.Proofs.Ytglkhoamnmiolaa.R
open Go Go.Proofs.Ytglkhoamnmiolaa.Vm
theorem Y0c{H:Heap}{b i:Nat}{o:Vm.Obj}{x:C}{l:List Int}(h:OInts H b x l)(hi: ∀j p n,x= .slice j p n->j≠i):OInts (H.put i o) b x l:=by
 refine⟨h.1,h.2.1,h.2.2.imp id fun⟨j,p,cs,h1,h2,h3,h4,h5⟩=>⟨j,p,cs,h1,h2,h3, ?_,h5⟩⟩
 rw[j0k (hi _ _ _ h1)]
 exact h4
theorem Y0d{n0 sz:Nat}{H:Heap}{F F':Nat->Prop}{us:List U}{c:C}(h:OutR n0 H F sz us c)(h0:us=[]->c= .nilSlice)(hF: ∀i,F i->F' i)(hn: ∀i,n0<=i->i<H.next->F' i):UC H F' (.sl (!us.isEmpty) us) [c]:=by
 by_cases he:us=[]
 ·subst he;rw[h0 rfl];exact .inl ⟨rfl,rfl,rfl⟩
 ·have hb:(!us.isEmpty)=true:=by cases us;exact absurd rfl he;rfl
  rcases h with⟨h1,_⟩ |⟨i,o,cs,h1,h2,h3,h4,h5,h6,h7⟩
  ·exact absurd h1 he
  ·exact .inr ⟨hb,i,o,cs,sz,by rw[h1],hn i h2 h3,h5,h6,h7.mono ⟨hF,fun _ _=>rfl⟩⟩
theorem j1H{b:Nat}{H:Heap}{F:Nat->Prop}{x:C}{l:List Int}(h:OInts H b x l)(hs:x≠ .nilSlice)(hF: ∀i,b<=i->i<H.next->F i):UC H F (uIs true l) [x]:=by
 rcases h.2.2 with⟨h1,_⟩ |⟨i,o,cs,h1,h2,h3,h4,h5,h6⟩
 ·exact absurd h1 hs
 ·rw[List.length_map]at h1 h5 h6
  refine .inr ⟨rfl,i,o,cs,1,by rw[h1,List.length_map],hF i h2 h3,h4,by rw[List.length_map];exact h5, ?_⟩
  rw[List.length_map,h6]
  exact Q0A l
section
variable{lim:Nat}{M:YM}(hM:CallsY lim M.ext){H0:Heap}{F:Nat->Prop}{b a:Nat}{b1 b2 b3:Bool}{l:List Int}{es:List E4}{xs:List (Bool×List Int)}{c1 c2 c3:C}
variable(A:AV lim H0 F b a l es xs b1 b2 b3 c1 c2 c3)
structure J6 (H0:Heap) (F:Nat->Prop) (b jl m m0:Nat) (H:Heap) (G:Nat->Prop) (us:List Int) (c:C):Prop where
 f:Fr1 H0 F b jl m m0 H G
 tab:H.get (jl+2)=some (.cells 1 [c])
 row:OInts H (jl+1) c us
 ap: ∀i o n,c= .slice i o n->i≠jl+2/\ ¬G i
 nz:c≠ .nilSlice
include hM A
theorem Y0e{jl m0:Nat}(hj:m0=jl+3)(hbm:b<=jl)(hlm:lim<=jl){G:Nat->Prop}(hG: ¬G (jl+2)){x20:Int}{x21 x22 x23 o1 o2:C}{o0:Int}:
  ∀(d s:Nat) (H:Heap) (c:C),s+d=a->J6 H0 F b jl xs.length m0 H G (oneA xs.length s) c->
  ∃H' c',f33_6 (MH lim) x20 x21 x22 x23 (xs.length:Int) (.func 71 [] [.ptr jl 0]) o0 o1 o2 (.slice (jl+2) 0 1) (a:Int) (s:Int) H=f33_6 (MH lim) x20 x21 x22 x23 (xs.length:Int) (.func 71 [] [.ptr jl 0]) o0 o1 o2 (.slice (jl+2) 0 1) (a:Int) (a:Int) H'/\
   J6 H0 F b jl xs.length m0 H' G (oneA xs.length a) c'/\FLe H G H' G/\H.next<=H'.next:=by
 have ha:=A.ha;have hx:=A.hx
 intro d
 induction d with
 |zero=>
  intro s H c hs j
  have:s=a:=by omega
  subst this
  exact⟨H,c,rfl,j, .refl _ _,nR _⟩
 |succ d ih=>
  intro s H c hs j
  have hn0:=j.f.n0
  obtain⟨H1,g1,g2⟩:=Q0G (M:=M) (lv:=xs.length) (s:=s) (show lim<=H.next by omega) j.f.lt j.f.inj j.f.box (by omega) hx hx hM
  have f1:=j.f.step (by omega) g2
  have gr:=w0h g2
  have t1:H1.get (jl+2)=some (.cells 1 [c]):=by rw[gr.keep _ (by omega)];exact j.tab
  have row1:OInts H1 (jl+1) c (oneA xs.length s):=Own.grow j.row gr
  obtain⟨q1,c',H2,q2,q3,q4,q5⟩:=row1.append1 (lim:=lim) (by omega) ((s*(xs.length+1)+xs.length:Nat):Int) (by simp[oneA];omega)
  have hcs: ∀i o n,c= .slice i o n->jl+1<=i/\i≠jl+2/\ ¬G i:=fun i o n e=>by
   obtain⟨g,g'⟩:=j.ap i o n e
   rcases row1.2.2 with⟨e2,_⟩ |⟨i',o',cs,e2,e3,_⟩
   ·rw[e]at e2;cases e2
   ·rw[e]at e2;cases e2;exact⟨e3,g,g'⟩
  have keep: ∀i,i<H1.next->(∀o n,c≠ .slice i o n)->H2.get i=H1.get i:=q4.keep
  have hno: ∀i,i<=jl\/i=jl+2\/G i-> ∀o n,c≠ .slice i o n:=fun i hi o n e=>by
   obtain⟨e1,e2,e3⟩:=hcs i o n e
   rcases hi with h |h |h
   ·omega
   ·exact e2 h
   ·exact e3 h
  have t2:H2.get (jl+2)=some (.cells 1 [c]):=by rw[keep _ (by have:=f1.n0;omega) (hno _ (.inr (.inl rfl)))];exact t1
  have st:Heap.st lim H2 (jl+2) 0 [c']=some (H2.put (jl+2) (.cells 1 [c'])):=k0O t2 (by omega) (by simp)
  have hc': ∃i o n,c'= .slice i o n/\H1.next<=i:=by
   rcases q5 with e |h
   ·subst e
    rcases q3.2.2 with⟨_,e⟩ |⟨_,_,_,e,_⟩
    ·simp at e
    ·cases e
   ·exact h
  obtain⟨i',o',n',e',hi'⟩:=hc'
  have kk: ∀i,i<=jl\/G i->(H2.put (jl+2) (.cells 1 [c'])).get i=H1.get i:=fun i hi=>by
   have hne:i≠jl+2:=fun e=>by
    rcases hi with h |h
    ·omega
    ·rw[e]at h;exact hG h
   have hlt:i<H1.next:=by
    rcases hi with h |h
    ·have:=f1.n0;omega
    ·exact f1.lt i h
   rw[j0k hne]
   exact keep i hlt (hno i (hi.imp id .inr))
  have j2:J6 H0 F b jl xs.length m0 (H2.put (jl+2) (.cells 1 [c'])) G (oneA xs.length (s+1)) c':=by
   refine⟨⟨⟨nT f1.fr.next q4.next,fun i hi=>by rw[kk i (.inl (by omega))];exact f1.fr.old i hi⟩,nT f1.n0 q4.next,by rw[kk jl (.inl (nR _))];exact f1.box,f1.inj,f1.sub,fun i hi=>nL (f1.lt i hi) q4.next,f1.new⟩,put_same _ _ _, ?_,fun i o n e=> ?_,by rw[e'];simp⟩
   ·have:oneA xs.length (s+1)=oneA xs.length s++[((s*(xs.length+1)+xs.length:Nat):Int)]:=by simp[oneA,List.range_succ]
    rw[this]
    refine Y0c q3 fun j' p n e=> ?_
    rw[e']at e;cases e
    have:=f1.n0;omega
   ·rw[e']at e;cases e
    refine⟨by have:=f1.n0;omega,fun h=> ?_⟩
    have:=f1.lt _ h;omega
  obtain⟨H',c'',z1,z2,z3,z4⟩:=ih (s+1) _ c' (by omega) j2
  refine⟨H',c'', ?_,z2,FLe.trans (FLe.trans (g2.le0 j.f.lt) ⟨fun _ h=>h,fun i hi=>kk i (.inr hi)⟩) z3,nT g2.next (nT q4.next z4)⟩
  have el:C.elem 1 (.slice (jl+2) 0 1) 0=some (jl+2,0):=rfl
  have ld0:Heap.ld H (jl+2) 0=some c:=by rw[z0R j.tab];rfl
  have ld1:Heap.ld H1 (jl+2) 0=some c:=by rw[z0R t1];rfl
  rw[K0x]
  simp only[show((s:Int)<(a:Int)) by omega,dY,iT,el,oS,ld0,C.asF,g1,asC_c,asI_int,seen_same ld1,q1,q2,st,q0b (show s<=1000000000 by omega),z1]
end
end Go.Proofs.Ytglkhoamnmiolaa.R
