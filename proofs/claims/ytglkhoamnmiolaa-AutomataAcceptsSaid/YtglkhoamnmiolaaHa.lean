/- - -/
import Derived.Test.YtglkhoamnmiolaaE9
set_option linter.all false
namespace Go.Proofs.Ytglkhoamnmiolaa.Vm
open Go
structure FrX (x:Option Nat) (H:Heap) (F:Nat->Prop) (H':Heap) (F':Nat->Prop):Prop where
 next:H.next<=H'.next
 keep: ∀i,i<H.next->some i≠x->H'.get i=H.get i
 sub: ∀i,F i->F' i
 new: ∀i,F' i->F i\/H.next<=i
 lt: ∀i,F' i->i<H'.next
section
variable{x:Option Nat}{H H' H'':Heap}{F F' F'':Nat->Prop}
theorem FrX.refl(hF: ∀i,F i->i<H.next):FrX x H F H F:=⟨nR _,fun _ _ _=>rfl,fun _ h=>h,fun _ h=> .inl h,hF⟩
theorem FrX.trans(h:FrX x H F H' F')(k:FrX x H' F' H'' F''):FrX x H F H'' F'':=
 ⟨nT h.next k.next,fun i hi hx=>(k.keep i (nL hi h.next) hx).trans (h.keep i hi hx),fun i hi=>k.sub i (h.sub i hi),
  fun i hi=>(k.new i hi).elim (h.new i) fun h2=> .inr (nT h.next h2),k.lt⟩
theorem FrX.weak(h:FrX none H F H' F'):FrX x H F H' F':=⟨h.next,fun i hi _=>h.keep i hi (fun e=>by cases e),h.sub,h.new,h.lt⟩
theorem FrX.le(h:FrX x H F H' F')(hx: ∀i,x=some i-> ¬F i)(hF: ∀i,F i->i<H.next):FLe H F H' F':=
 ⟨h.sub,fun i hi=>h.keep i (hF i hi) fun e=>hx i e.symm hi⟩
theorem FrX.le0(h:FrX none H F H' F')(hF: ∀i,F i->i<H.next):FLe H F H' F':=h.le (fun i e=>by cases e) hF
theorem FrX.alloc(o:Obj)(hF: ∀i,F i->i<H.next):FrX none H F (H.alloc o) F:=
 ⟨Nat.le_succ _,fun i hi _=>q0g hi,fun _ h=>h,fun _ h=> .inl h,fun i hi=>Nat.lt_succ_of_lt (hF i hi)⟩
theorem FrX.put(i:Nat)(o:Obj)(hF: ∀i,F i->i<H.next):FrX (some i) H F (H.put i o) F:=
 ⟨nR _,fun j _ hx=>by
  have:j≠i:=fun e=>hx (by rw[e])
  simp[Heap.put,this],fun _ h=>h,fun _ h=> .inl h,hF⟩
theorem FrX.more{F2:Nat->Prop}{n0:Nat}(h:FrX x H F H' F')(h1: ∀i,F' i->F2 i)(h2: ∀i,F2 i->F' i\/(n0<=i/\i<H'.next))(h3:H.next<=n0):FrX x H F H' F2:=
 ⟨h.next,h.keep,fun i hi=>h1 i (h.sub i hi),fun i hi=>(h2 i hi).elim (h.new i) fun h4=> .inr (nT h3 h4.1),fun i hi=>(h2 i hi).elim (h.lt i) fun h4=>h4.2⟩
theorem ldX{i o:Nat}{z:Nat}{cs:List C}{c:C}(h:H.get i=some (.cells z cs))(hc:cs[o]? =some c):H.ld i o=some c:=by
 unfold Heap.ld;rw[h];exact hc
theorem UC.elem{b:Bool}{us:List U}{c:C}(h:UC H F (.sl b us) [c]){k:Nat}{u:U}(hk:us[k]? =some u):
  ∃i o z cs,C.elem u.size c (k:Int)=some (i,o)/\F i/\H.get i=some (.cells z cs)/\o+u.size<=cs.length/\UC H F u ((cs.drop o).take u.size):=by
 have hlt:k<us.length:=(gE.1 hk).1
 rcases h with⟨_,rfl,_⟩ |⟨_,i,o,cs,sz,e,h1,h2,h3,h4⟩
 ·simp at hlt
 ·obtain⟨g1,g2⟩:=h4.get hk
  have hs:u.size=sz:=h4.sizes u (List.mem_of_getElem? hk)
  have hm:(k+1)*sz<=us.length*sz:=Nat.mul_le_mul_right _ hlt
  rw[Nat.succ_mul]at hm
  refine⟨i,o+k*sz,sz,cs, ?_,h1,h2,by omega, ?_⟩
  ·have e':c= .slice i o us.length:=by simpa using e
   subst e'
   rw[hs]
   simp[C.elem,hlt]
  ·rw[hs]
   rw[List.drop_take,List.take_take,List.drop_drop]at g1
   rw[Nat.min_eq_left (by omega)]at g1
   exact g1
theorem UC.lenC{b:Bool}{us:List U}{c:C}(h:UC H F (.sl b us) [c]):C.len c=some us.length:=by
 rcases h with⟨_,rfl,e⟩ |⟨_,i,o,cs,sz,e,_⟩
 ·have:c= .nilSlice:=by simpa using e
  subst this;rfl
 ·have:c= .slice i o us.length:=by simpa using e
  subst this;rfl
theorem z0w{cs:List C}{o n:Nat}{x:C}{r:List C}(h:(cs.drop o).take n=x::r):cs[o]? =some x:=by
 have:=congrArg (fun l:List C=>l[0]?) h
 simp only[List.getElem?_cons_zero,List.getElem?_take]at this
 split at this
 ·simpa[List.getElem?_drop]using this
 ·cases this
def OutR(n0:Nat)(H:Heap)(F:Nat->Prop)(sz:Nat)(us:List U)(c:C):Prop:=
 (us=[]/\c= .nilSlice)\/(∃i o cs,c= .slice i o us.length/\n0<=i/\i<H.next/\ ¬F i/\H.get i=some (.cells sz cs)/\o+us.length*sz<=cs.length/\EsR H F us sz ((cs.drop o).take (us.length*sz)))
theorem OutR.nil{n0 sz:Nat}:OutR n0 H F sz [] .nilSlice:= .inl ⟨rfl,rfl⟩
theorem SlR.out{n0:Nat}{s:Sx}{v:V}(h:SlR n0 H F s v): ∃c,v= .c c/\OutR n0 H F s.sz s.es c:=by
 rcases h with⟨_,h1,rfl⟩ |⟨_,i,p,cs,rfl,h1,h2,h3,h4,h5,h6⟩
 ·exact⟨_,rfl,by rw[h1];exact .nil⟩
 ·exact⟨_,rfl, .inr ⟨i,p,cs,rfl,h1,h2,h3,h4,h5,h6⟩⟩
theorem OutR.fr{n0 sz:Nat}{us:List U}{c:C}(h:OutR n0 H F sz us c)(f:FrX x H F H' F')(hx: ∀i,x=some i->i<n0/\ ¬F i)(hF: ∀i,F i->i<H.next):OutR n0 H' F' sz us c:=by
 rcases h with h |⟨i,o,cs,h1,h2,h3,h4,h5,h6,h7⟩
 ·exact .inl h
 ·refine .inr ⟨i,o,cs,h1,h2,nL h3 f.next,fun h8=> ?_, ?_,h6,h7.mono (f.le (fun i e=>(hx i e).2) hF)⟩
  ·rcases f.new i h8 with h9 |h9
   ·exact h4 h9
   ·omega
  ·rw[f.keep i h3 fun e=>by have:=(hx i e.symm).1;omega]
   exact h5
theorem OutR.len{n0 sz:Nat}{us:List U}{c:C}(h:OutR n0 H F sz us c):C.len c=some us.length:=by
 rcases h with⟨rfl,rfl⟩ |⟨i,o,cs,rfl,_⟩<;>rfl
theorem OutR.app{n0 sz lim:Nat}{us:List U}{c:C}{u:U}{xs:List C}(h:OutR n0 H F sz us c)(hl:lim<=n0)(hF: ∀i,F i->i<H.next)(hn:n0<=H.next)(hu:UC H F u xs)(hs:xs.length=sz)(hus:us.length<=1000000000):
  ∃c' H',Heap.app lim H sz c xs 1=some (c',H')/\OutR n0 H' F sz (us++[u]) c'/\H.next<=H'.next/\FLe H F H' F/\ ∀i,i<n0->H'.get i=H.get i:=by
 have hr1:roomy 1:=by show _<=_;omega
 have hr2:roomy (us.length+1):=by show _<=_;omega
 rcases h with⟨rfl,rfl⟩ |⟨i,o,cs,rfl,h2,h3,h4,h5,h6,h7⟩
 ·refine⟨.slice H.next 0 1,H.alloc (.cells sz xs),by simp[Heap.app,hr1], .inr ⟨H.next,0,xs,rfl,hn,Nat.lt_succ_self _,fun h=>absurd (hF _ h) (Nat.lt_irrefl _),alloc_new _ _,by simp[hs], ?_⟩,Nat.le_succ _,⟨fun _ h=>h,fun i hi=>q0g (hF i hi)⟩,fun i hi=>q0g (by omega)⟩
  rw[List.drop_zero,List.take_of_length_le (by simp[hs])]
  exact⟨xs,[],by simp,hs,hu.mono ⟨fun _ h=>h,fun i hi=>q0g (hF i hi)⟩,rfl⟩
 ·generalize hw:(cs.drop o).take (us.length*sz)=w at h7
  have hwl:w.length=us.length*sz:=by rw[<-hw,List.length_take,List.length_drop,Nat.min_eq_left (by omega)]
  have hk: ∀j,j≠i->j<H.next->((H.kill i).alloc (.cells sz (w++xs))).get j=H.get j:=fun j hj hlt=>by
   rw[q0g (by simpa using hlt)]
   simp[Heap.kill,hj]
  have hle:FLe H F ((H.kill i).alloc (.cells sz (w++xs))) F:=⟨fun _ h=>h,fun j hj=>hk j (fun e=>h4 (by rw[<-e];exact hj)) (hF j hj)⟩
  have hlen:(w++xs).length=(us++[u]).length*sz:=by
   rw[List.length_append,hwl,hs,List.length_append,Nat.add_mul]
   simp
  refine⟨.slice H.next 0 (us.length+1),(H.kill i).alloc (.cells sz (w++xs)), ?_, .inr ⟨H.next,0,w++xs,by simp,hn,by simp[Heap.alloc],fun h=>absurd (hF _ h) (Nat.lt_irrefl _), ?_, ?_, ?_⟩,by simp[Heap.alloc],hle,fun j hj=>hk j (by omega) (by omega)⟩
  ·simp only[Heap.app,h5]
   rw[if_pos ⟨by omega,trivial,by omega,hr2⟩,hw]
  ·exact alloc_new (H.kill i) _
  ·rw[hlen];simp
  ·have e1:EsR ((H.kill i).alloc (.cells sz (w++xs))) F [u] sz xs:=⟨xs,[],by simp,hs,hu.mono hle,rfl⟩
   rw[List.drop_zero,List.take_of_length_le (Nat.le_of_eq hlen)]
   exact(h7.mono hle).append e1
theorem OutR.fin{n0 sz:Nat}{us:List U}{c:C}(h:OutR n0 H F sz us c)(hF: ∀i,F i->i<H.next):
  ∃F':Nat->Prop,(∀i,F i->F' i)/\(∀i,F' i->F i\/(n0<=i/\i<H.next))/\ ∃b,(b=false->us=[])/\UC H F' (.sl b us) [c]:=by
 rcases h with⟨rfl,rfl⟩ |⟨i,o,cs,rfl,h2,h3,h4,h5,h6,h7⟩
 ·exact⟨F,fun _ h=>h,fun _ h=> .inl h,false,fun _=>rfl, .inl ⟨rfl,rfl,rfl⟩⟩
 ·exact⟨fun j=>F j\/j=i,fun _ h=> .inl h,fun j hj=>hj.imp id fun e=>by subst e;exact⟨h2,h3⟩,true,fun e=>(by cases e), .inr ⟨rfl,i,o,cs,sz,rfl, .inr rfl,h5,h6,h7.mono ⟨fun _ h=> .inl h,fun _ _=>rfl⟩⟩⟩
end
theorem FrX.step{H H1 H2:Heap}{F F1 F2:Nat->Prop}{x:Option Nat}(h:FrX x H F H1 F1)(k:FrX none H1 F1 H2 F2):FrX x H F H2 F2:=h.trans k.weak
theorem Rz.callU{lim:Nat}{call:CallT}{md:FuncId->List RM}{yc:YCallT}(hok:CallsOK lim call md yc){f:FuncId}{us:List U}{r:Rz}{u:U}(h:yc f us=some r)(hu:r.toU=some u){H:Heap}{F:Nat->Prop}{vs:List V}(hl:lim<=H.next)(hF: ∀i,F i->i<H.next)(hv:UVs H F us vs):
  ∃v H' F',call f vs H=some (v,H')/\FrX none H F H' F'/\UV H' F' u v:=by
 obtain⟨v,H',F',c1,c2,c3,c4,c5,c6,c7⟩:=hok f us r h H F vs hl hF hv
 obtain⟨F2,g1,g2,g3⟩:=c7.toU hu
 exact⟨v,H',F2,c1,⟨c2,fun i hi _=>c3 i hi,fun i hi=>g1 i (c4 i hi),fun i hi=>(g2 i hi).elim (c5 i) fun h=> .inr h.1,fun i hi=>(g2 i hi).elim (c6 i) fun h=>h.2⟩,g3⟩
theorem Rz.callT{lim:Nat}{call:CallT}{md:FuncId->List RM}{yc:YCallT}(hok:CallsOK lim call md yc){f:FuncId}{us us':List U}(h:yc f us=some (.tup us')){m1 m2:RM}(hm:md f=[m1,m2]){H:Heap}{F:Nat->Prop}{vs:List V}(hl:lim<=H.next)(hF: ∀i,F i->i<H.next)(hv:UVs H F us vs):
  ∃ws H' F',call f vs H=some (.tuple ws,H')/\FrX none H F H' F'/\UVs H' F' us' ws:=by
 obtain⟨v,H',F',c1,c2,c3,c4,c5,c6,c7⟩:=hok f us _ h H F vs hl hF hv
 rw[hm]at c7
 obtain⟨ws,rfl,c8⟩:=c7
 exact⟨ws,H',F',c1,⟨c2,fun i hi _=>c3 i hi,c4,c5,c6⟩,c8.uvs⟩
theorem UV.bool{H:Heap}{F:Nat->Prop}{b:Bool}{v:V}(h:UV H F (.c (.bool b)) v):v= .c (.bool b):=by
 cases v with
 |c c=>have:=h.2.2;simp only[List.cons.injEq,and_true]at this;rw[this]
 |agg xs=>obtain⟨us,h,_⟩:=h;cases h
 |tuple _=>exact h.elim
theorem UV.int{H:Heap}{F:Nat->Prop}{k:IntKind}{n:Int}{v:V}(h:UV H F (.c (.int k n)) v):v= .c (.int k n):=by
 cases v with
 |c c=>have:=h.2.2;simp only[List.cons.injEq,and_true]at this;rw[this]
 |agg xs=>obtain⟨us,h,_⟩:=h;cases h
 |tuple _=>exact h.elim
theorem UV.one{H:Heap}{F:Nat->Prop}{u:U}{v:V}(hs:u.isSt=false)(h:UV H F u v): ∃c,v= .c c/\UC H F u [c]:=by
 cases v with
 |c c=>exact⟨c,rfl,h.2⟩
 |agg xs=>obtain⟨us,h,_⟩:=h;subst h;cases hs
 |tuple _=>exact h.elim
end Go.Proofs.Ytglkhoamnmiolaa.Vm
