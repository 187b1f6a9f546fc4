/- - -/
import Derived.Test.YtglkhoamnmiolaaKg
import Derived.Test.YtglkhoamnmiolaaTb
set_option linter.all false
namespace Go.Proofs.Ytglkhoamnmiolaa.R
open Go Go.Proofs.Ytglkhoamnmiolaa.Vm
def fc(n:Nat)(g:Nat->Int):List C:=(List.range n).map fun x=> .int .i64 (g x)
theorem z0L(n:Nat)(g:Nat->Int):(fc n g).length=n:=by simp[fc]
theorem w0Q{n x:Nat}{g:Nat->Int}(h:x<n):(fc n g)[x]? =some (.int .i64 (g x)):=by simp[fc,h]
theorem Z0r{n x:Nat}{g:Nat->Int}{y:Int}(h:x<n):(fc n g).set x (.int .i64 y)=fc n fun u=>if u=x then y else g u:=by
 refine List.ext_getElem? fun i=> ?_
 rw[List.getElem?_set]
 by_cases hi:i<n
 ·rw[w0Q hi,w0Q hi,z0L]
  by_cases e:x=i
  ·subst e;simp[h]
  ·rw[if_neg e,if_neg (fun e'=>e e'.symm)]
 ·rw[List.getElem?_eq_none (by rw[z0L];omega),List.getElem?_eq_none (by rw[z0L];omega)]
  have:x≠i:=by omega
  simp[this]
structure TNum (n:Nat) (σ σ':TS):Prop where
 c:σ.c+rest n σ<=n->σ'.c+rest n σ'<=n
 f:σ'.f+σ.c<=σ.f+σ'.c
 st:σ.st.length<=σ.c->σ'.st.length<=σ'.c
 lt:(∀x∈σ.st,x<n)-> ∀x∈σ'.st,x<n
theorem TNum.refl(n:Nat)(σ:TS):TNum n σ σ:=⟨id,nR _,id,id⟩
theorem TNum.trans{n:Nat}{σ σ1 σ2:TS}(h:TNum n σ σ1)(k:TNum n σ1 σ2):TNum n σ σ2:=⟨fun e=>k.c (h.c e),by have:=h.f;have:=k.f;omega,fun e=>k.st (h.st e),fun e=>k.lt (h.lt e)⟩
theorem TNum.setLow(n:Nat)(σ:TS)(v x:Nat):TNum n σ (σ.setLow v x):=⟨id,nR _,id,id⟩
theorem W0U(v:Nat)(x:Int): ∀(st:List Nat) (of:Nat->Int),(popTo v x st of).1.length<=st.length/\ ∀u∈(popTo v x st of).1,u∈st
 | [],of=>⟨nR _,fun u h=>h⟩
 |w::st,of=>by
  simp only[popTo]
  split
  ·exact⟨by simp,fun u h=>List.mem_cons_of_mem _ h⟩
  ·obtain⟨h1,h2⟩:=W0U v x st fun u=>if u=w then x else of u
   exact⟨by simp only[List.length_cons];omega,fun u h=>List.mem_cons_of_mem _ (h2 u h)⟩
theorem w0u{n:Nat}{rec:TS->Nat->Option TS}{v:Nat}(hrec: ∀σ w σ',σ.num w=0->w<n->rec σ w=some σ'->TNum n σ σ'): ∀(ws:List Nat) (σ σ':TS),(∀w∈ws,w<n)->visL rec v ws σ=some σ'->TNum n σ σ'
 | [],σ,σ',_,h=>by simp only[visL]at h;cases h;exact .refl n σ
 |w::ws,σ,σ',hw,h=>by
  have hw': ∀u∈ws,u<n:=fun u hu=>hw u (by simp[hu])
  simp only[visL]at h
  split at h
  ·rename_i h0
   obtain⟨σ1,h1,h2⟩:=oB.1 h
   exact(hrec σ w σ1 h0 (hw w (by simp)) h1).trans ((TNum.setLow n σ1 _ _).trans (w0u hrec ws _ _ hw' h2))
  ·split at h
   ·exact(TNum.setLow n σ _ _).trans (w0u hrec ws _ _ hw' h)
   ·exact w0u hrec ws _ _ hw' h
theorem K0a{nx:Nat->List Nat}{n:Nat}(hnx: ∀x,∀y∈nx x,y<n): ∀(k:Nat) (σ:TS) (v:Nat) (σ':TS),σ.num v=0->v<n->vis nx k σ v=some σ'->TNum n σ σ'/\σ'.f+σ.c+1<=σ.f+σ'.c+1
 | 0,σ,v,σ',_,_,h=>by simp[vis]at h
 |k+1,σ,v,σ',h0,hv,h=>by
  simp only[vis]at h
  obtain⟨σ1,h1,h2⟩:=oB.1 h
  have a:=w0u (n:=n) (fun σ w σ' g0 g1 g2=>(K0a hnx k σ w σ' g0 g1 g2).1) _ _ _ (hnx v) h1
  have hr:rest n (σ.enter v)<rest n σ:=J0q (fun x hx=>by
   show(if x=v then _ else σ.num x)≠0
   split
   ·omega
   ·exact hx) hv h0 (by show(if v=v then _ else _)≠0;rw[if_pos rfl];omega)
  have ec:(σ.enter v).c=σ.c+1:=rfl
  have ef:(σ.enter v).f=σ.f:=rfl
  have es:(σ.enter v).st=v::σ.st:=rfl
  have b:TNum n σ σ1/\σ1.f+σ.c+1<=σ.f+σ1.c:=by
   refine⟨⟨fun e=>a.c (by rw[ec];omega),by have:=a.f;rw[ec,ef]at this;omega,fun e=>a.st (by rw[es,ec,List.length_cons];omega),fun e=>a.lt (by rw[es];intro x hx;rcases mC.1 hx with g |g;rw[g];exact hv;exact e x g)⟩,by have:=a.f;rw[ec,ef]at this;omega⟩
  split at h2
  ·cases h2
   exact⟨b.1,by omega⟩
  ·split at h2
   ·cases h2
    obtain⟨p1,p2⟩:=W0U v σ1.f σ1.st σ1.of
    refine⟨⟨b.1.c, ?_,fun e=>nT p1 (b.1.st e),fun e x hx=>b.1.lt e x (p2 x hx)⟩, ?_⟩
    ·show σ1.f+1+σ.c<=σ.f+σ1.c
     omega
    ·show σ1.f+1+σ.c+1<=σ.f+σ1.c+1
     omega
   ·cases h2
structure TSR (H:Heap) (b jc jn jl jo n:Nat) (gc sc:C) (σ:TS):Prop where
 hc:H.get jc=some (.cells 7 [gc, .slice jn 0 n, .slice jl 0 n, .slice jo 0 n,sc, .int .i64 (σ.c:Int), .int .i64 (σ.f:Int)])
 hn: ∃z,H.get jn=some (.cells z (fc n fun x=>(σ.num x:Int)))
 hl: ∃z,H.get jl=some (.cells z (fc n fun x=>(σ.low x:Int)))
 ho:H.get jo=some (.cells 1 (fc n σ.of))
 st:OInts H b sc (σ.st.reverse.map fun(x:Nat)=>(x:Int))
 ap: ∀i o m,sc= .slice i o m->i≠jc/\i≠jn/\i≠jl/\i≠jo
 lt:jc<H.next/\jn<H.next/\jl<H.next/\jo<H.next
structure TIds (lim b jc jn jl jo:Nat):Prop where
 lim:lim<=b
 ge:b<=jc/\b<=jn/\b<=jl/\b<=jo
 ne:jc≠jn/\jc≠jl/\jc≠jo/\jn≠jl/\jn≠jo/\jl≠jo
theorem j0f{H:Heap}{lim i o z:Nat}{cs:List C}{x:C}(h:H.get i=some (.cells z cs))(hl:lim<=i)(ho:o<cs.length):Heap.st lim H i o [x]=some (H.put i (.cells z (cs.set o x))):=Q0Z h hl ho
section
variable{H:Heap}{lim b jc jn jl jo n:Nat}{gc sc:C}{σ:TS}
theorem j0a{H:Heap}{b i:Nat}{o:Vm.Obj}{x:C}{l:List Int}(h:OInts H b x l)(hi: ∀j p n,x= .slice j p n->j≠i):OInts (H.put i o) b x l:=by
 refine⟨h.1,h.2.1,h.2.2.imp id fun⟨j,p,cs,h1,h2,h3,h4,h5⟩=>⟨j,p,cs,h1,h2,h3, ?_,h5⟩⟩
 rw[q0d (hi _ _ _ h1)]
 exact h4
theorem TSR.setLow(h:TSR H b jc jn jl jo n gc sc σ)(I:TIds lim b jc jn jl jo){v:Nat}(hv:v<n)(x:Nat): ∃H',Heap.st lim H jl v [.int .i64 (x:Int)]=some H'/\TSR H' b jc jn jl jo n gc sc (σ.setLow v x)/\(∀i,i<b->H'.get i=H.get i)/\H.next=H'.next:=by
 obtain⟨n1,n2,n3,n4,n5,n6⟩:=I.ne
 obtain⟨z,hz⟩:=h.hl
 have hge:=I.ge;have hlm:=I.lim
 refine⟨_,j0f hz (by omega) (by rw[z0L];exact hv),⟨?_, ?_,⟨z, ?_⟩, ?_,j0a h.st fun j p m e=>(h.ap j p m e).2.2.1,h.ap,h.lt⟩,fun i hi=>q0d (by omega),rfl⟩
 ·rw[q0d n2];exact h.hc
 ·obtain⟨z',h'⟩:=h.hn;exact⟨z',by rw[q0d n4];exact h'⟩
 ·rw[put_same,Z0r hv]
  congr 3
  funext u
  show(if u=v then(x:Int)else(σ.low u:Int))=((if u=v then x else σ.low u:Nat):Int)
  split<;>rfl
 ·rw[q0d (Ne.symm n6)];exact h.ho
theorem TSR.ldn(h:TSR H b jc jn jl jo n gc sc σ){v:Nat}(hv:v<n):Heap.ld H jn v=some (.int .i64 (σ.num v:Int)):=by
 obtain⟨z,hz⟩:=h.hn;rw[q0x hz];exact w0Q hv
theorem TSR.ldl(h:TSR H b jc jn jl jo n gc sc σ){v:Nat}(hv:v<n):Heap.ld H jl v=some (.int .i64 (σ.low v:Int)):=by
 obtain⟨z,hz⟩:=h.hl;rw[q0x hz];exact w0Q hv
theorem TSR.ldo(h:TSR H b jc jn jl jo n gc sc σ){v:Nat}(hv:v<n):Heap.ld H jo v=some (.int .i64 (σ.of v)):=by
 rw[q0x h.ho];exact w0Q hv
theorem TSR.ldc(h:TSR H b jc jn jl jo n gc sc σ):Heap.ld H jc 0=some gc/\Heap.ld H jc 1=some (.slice jn 0 n)/\Heap.ld H jc 2=some (.slice jl 0 n)/\Heap.ld H jc 3=some (.slice jo 0 n)/\Heap.ld H jc 4=some sc/\Heap.ld H jc 5=some (.int .i64 (σ.c:Int))/\Heap.ld H jc 6=some (.int .i64 (σ.f:Int)):=by
 simp only[q0x h.hc];exact⟨rfl,rfl,rfl,rfl,rfl,rfl,rfl⟩
theorem q1H{M:Mach}{H0:Heap}{bb:Bool}{rows:List (Bool×List Int)}{F:Nat->Prop}(h:TSR H b jc jn jl jo n gc sc σ)(I:TIds M.lim b jc jn jl jo){v:Nat}(hv:v<n)(hF: ∀i,F i->i<b)(hf:FrB b H0 H)(hg:UC H0 F (uLs bb rows) [gc]){r:Bool×List Int}(hr:rows[v]? =some r)(hcb:σ.c<=1000000)(hsb:σ.st.length<=1000000):
  ∃H' sc' c39,f109 M (.ptr jc 0) (v:Int) H=f109_1 M (.ptr jc 0) (v:Int) c39 (r.2.length:Int) 0 H'/\TSR H' b jc jn jl jo n gc sc' (σ.enter v)/\FrB b H0 H'/\UC H0 F (uIs r.1 r.2) [c39]:=by
 obtain⟨n1,n2,n3,n4,n5,n6⟩:=I.ne
 have hge:=I.ge;have hlm:=I.lim
 obtain⟨zn,hn⟩:=h.hn
 obtain⟨zl,hl⟩:=h.hl
 have ho:=h.ho
 have hlt:=h.lt
 have l0:=h.ldc
 have e1:IntKind.wrap .i64 ((σ.c:Int)+1)=((σ.c+1:Nat):Int):=q0b (by omega)
 have s7:=j0f (lim:=M.lim) (x:= .int .i64 ((σ.c+1:Nat):Int)) h.hc (by omega) (o:=5) (by simp)
 generalize hH7:H.put jc (.cells 7 ([gc, .slice jn 0 n, .slice jl 0 n, .slice jo 0 n,sc, .int .i64 (σ.c:Int), .int .i64 (σ.f:Int)].set 5 (.int .i64 ((σ.c+1:Nat):Int))))=H7 at s7
 have g7:H7.get jc=some (.cells 7 [gc, .slice jn 0 n, .slice jl 0 n, .slice jo 0 n,sc, .int .i64 ((σ.c+1:Nat):Int), .int .i64 (σ.f:Int)]):=by rw[<-hH7,put_same];rfl
 have k7: ∀i,i≠jc->H7.get i=H.get i:=fun i hi=>by rw[<-hH7,q0d hi]
 have x7:H7.next=H.next:=by rw[<-hH7];rfl
 have o7:OInts H7 b sc (σ.st.reverse.map fun(x:Nat)=>(x:Int)):=by rw[<-hH7];exact j0a h.st fun j p m e=>(h.ap j p m e).1
 have s23:=j0f (lim:=M.lim) (x:= .int .i64 ((σ.c+1:Nat):Int)) (show H7.get jn=_ by rw[k7 jn (Ne.symm n1)];exact hn) (by omega) (o:=v) (by rw[z0L];exact hv)
 rw[Z0r hv]at s23
 generalize hH23:H7.put jn _=H23 at s23
 have k23: ∀i,i≠jn->H23.get i=H7.get i:=fun i hi=>by rw[<-hH23,q0d hi]
 have g23:H23.get jn=some (.cells zn (fc n fun u=>if u=v then((σ.c+1:Nat):Int)else(σ.num u:Int))):=by rw[<-hH23,put_same]
 have o23:OInts H23 b sc (σ.st.reverse.map fun(x:Nat)=>(x:Int)):=by rw[<-hH23];exact j0a o7 fun j p m e=>(h.ap j p m e).2.1
 have s25:=j0f (lim:=M.lim) (x:= .int .i64 ((σ.c+1:Nat):Int)) (show H23.get jl=_ by rw[k23 jl (Ne.symm n4),k7 jl (Ne.symm n2)];exact hl) (by omega) (o:=v) (by rw[z0L];exact hv)
 rw[Z0r hv]at s25
 generalize hH25:H23.put jl _=H25 at s25
 have k25: ∀i,i≠jl->H25.get i=H23.get i:=fun i hi=>by rw[<-hH25,q0d hi]
 have g25:H25.get jl=some (.cells zl (fc n fun u=>if u=v then((σ.c+1:Nat):Int)else(σ.low u:Int))):=by rw[<-hH25,put_same]
 have o25:OInts H25 b sc (σ.st.reverse.map fun(x:Nat)=>(x:Int)):=by rw[<-hH25];exact j0a o23 fun j p m e=>(h.ap j p m e).2.2.1
 have x25:H25.next=H.next:=by rw[<-hH25,<-hH23];exact x7
 have c25:H25.get jc=some (.cells 7 [gc, .slice jn 0 n, .slice jl 0 n, .slice jo 0 n,sc, .int .i64 ((σ.c+1:Nat):Int), .int .i64 (σ.f:Int)]):=by rw[k25 jc n2,k23 jc n1];exact g7
 obtain⟨q1,sc',H31,q2,q3,q4,q5⟩:=o25.append1 (lim:=M.lim) (by omega) (v:Int) (by simp;omega)
 have keep: ∀i,i<H25.next->(∀o m,sc≠ .slice i o m)->H31.get i=H25.get i:=q4.keep
 have nsc: ∀i,(i=jc\/i=jn\/i=jl\/i=jo\/i<b)-> ∀o m,sc≠ .slice i o m:=fun i hi o m e=>by
  obtain⟨a1,a2,a3,a4⟩:=h.ap i o m e
  rcases hi with g |g |g |g |g
  ·exact a1 g
  ·exact a2 g
  ·exact a3 g
  ·exact a4 g
  ·rcases h.st.2.2 with⟨e2,_⟩ |⟨i',o',cs,e2,e3,_⟩
   ·rw[e]at e2;cases e2
   ·rw[e]at e2;cases e2;omega
 have c31:H31.get jc=some (.cells 7 [gc, .slice jn 0 n, .slice jl 0 n, .slice jo 0 n,sc, .int .i64 ((σ.c+1:Nat):Int), .int .i64 (σ.f:Int)]):=by rw[keep jc (by omega) (nsc jc (.inl rfl))];exact c25
 have s34:=j0f (lim:=M.lim) (x:=sc') c31 (by omega) (o:=4) (by simp)
 generalize hH34:H31.put jc _=H34 at s34
 have k34: ∀i,i≠jc->H34.get i=H31.get i:=fun i hi=>by rw[<-hH34,q0d hi]
 have x31:H25.next<=H31.next:=q4.next
 have x34:H34.next=H31.next:=by rw[<-hH34];rfl
 have hsc': ∀i o m,sc'= .slice i o m->H.next<=i:=fun i o m e=>by
  rcases q5 with g |⟨i',o',m',g,g2⟩
  ·rw[g]at e;cases e
  ·rw[g]at e;cases e;omega
 have frb:FrB b H0 H34:=⟨by have:=hf.next;omega,fun i hi=>by
  rw[k34 i (by omega),keep i (by have:=hf.next;omega) (nsc i (.inr (.inr (.inr (.inr hi))))),k25 i (by omega),k23 i (by omega),k7 i (by omega)];exact hf.old i hi⟩
 have l34:Heap.ld H34 jc 0=some gc:=by rw[<-hH34,q0x (put_same _ _ _)];rfl
 obtain⟨i1,o1,c39,g1,g2,g3,g4⟩:=rdL (J0F hg frb hF) hr
 have hg39:UC H0 F (uIs r.1 r.2) [c39]:=g4.mono ⟨fun _ h=>h,fun i hi=>(frb.old i (hF i hi)).symm⟩
 refine⟨H34,sc',c39, ?_,⟨?_,⟨zn, ?_⟩,⟨zl, ?_⟩, ?_, ?_,fun i o m e=> ?_,by omega⟩,frb,hg39⟩
 ·have l7a:Heap.ld H7 jc 1=some (.slice jn 0 n):=by rw[q0x g7];rfl
  have l7b:Heap.ld H7 jc 2=some (.slice jl 0 n):=by rw[q0x g7];rfl
  have l7c:Heap.ld H7 jc 5=some (.int .i64 ((σ.c+1:Nat):Int)):=by rw[q0x g7];rfl
  have l25:Heap.ld H25 jc 4=some sc:=by rw[q0x c25];rfl
  rw[w1z]
  simp only[withP_ptr,Nat.zero_add,l0,oS,asI_int,e1,s7,l7a,l7b,l7c,q0g hv,s23,s25,l25,q1,q2,s34,l34,g1,g3,Q1s g4]
 ·rw[<-hH34,put_same];rfl
 ·rw[k34 jn (Ne.symm n1),keep jn (by omega) (nsc jn (.inr (.inl rfl))),k25 jn n4,g23]
  congr 3
  funext u
  show(if u=v then((σ.c+1:Nat):Int)else(σ.num u:Int))=((if u=v then σ.c+1 else σ.num u:Nat):Int)
  split<;>rfl
 ·rw[k34 jl (Ne.symm n2),keep jl (by omega) (nsc jl (.inr (.inr (.inl rfl)))),g25]
  congr 3
  funext u
  show(if u=v then((σ.c+1:Nat):Int)else(σ.low u:Int))=((if u=v then σ.c+1 else σ.low u:Nat):Int)
  split<;>rfl
 ·rw[k34 jo (Ne.symm n3),keep jo (by omega) (nsc jo (.inr (.inr (.inr (.inl rfl))))),k25 jo (Ne.symm n6),k23 jo (Ne.symm n5),k7 jo (Ne.symm n3)]
  exact ho
 ·have e:((σ.enter v).st.reverse.map fun(x:Nat)=>(x:Int))=(σ.st.reverse.map fun(x:Nat)=>(x:Int))++[(v:Int)]:=by
   show((v::σ.st).reverse.map _)=_
   simp
  rw[e,<-hH34]
  exact j0a q3 fun j p m e=>by have:=hsc' j p m e;omega
 ·have:=hsc' i o m e;omega
theorem Q1a{M:Mach}{H0:Heap}(I:TIds M.lim b jc jn jl jo){v:Nat}:
  ∀(st:List Nat) (H:Heap) (sc:C) (σ:TS),σ.st=st->v∈st->(∀x∈st,x<n)->st.length<=1000000->σ.f<=1000000->FrB b H0 H->TSR H b jc jn jl jo n gc sc σ->
  ∃H' sc',f109_4 M (.ptr jc 0) (v:Int) H=some (.tuple [],H')/\FrB b H0 H'/\TSR H' b jc jn jl jo n gc sc' {σ with st:=(popTo v σ.f st σ.of).1,of:=(popTo v σ.f st σ.of).2,f:=σ.f+1}:=by
 obtain⟨n1,n2,n3,n4,n5,n6⟩:=I.ne
 have hge:=I.ge;have hlm:=I.lim
 intro st
 induction st with
 |nil=>intro H sc σ _ hv;cases hv
 |cons w st ih=>
  intro H sc σ hst hv hlt hlen hfb hf h
  have hwn:w<n:=hlt w (by simp)
  have hrev:(σ.st.reverse.map fun(x:Nat)=>(x:Int))=(st.reverse.map fun(x:Nat)=>(x:Int))++[(w:Int)]:=by rw[hst];simp
  have hll:(st.reverse.map fun(x:Nat)=>(x:Int)).length=st.length:=by simp
  have l0:=h.ldc
  have hst':=h.st
  rw[hrev]at hst'
  have hlenC:C.len sc=some (st.length+1):=by have:=hst'.ints.len;simpa using this
  obtain⟨q,r1,r2⟩:=hst'.ints.read (j:=st.length) (v:=(w:Int)) (by rw[List.getElem?_append_right (by omega),hll];simp)
  have e1:IntKind.wrap .i64 (((st.length+1:Nat):Int) - 1)=(st.length:Int):=by simp only[List.length_cons]at hlen;rw[j0M (by omega) (by omega)];omega
  obtain⟨i,o,cs,d1,d2,d3,d4,d5,d6⟩: ∃i o cs,sc= .slice i o (st.length+1)/\b<=i/\i<H.next/\H.get i=some (.cells 1 cs)/\o+(st.length+1)*1<=cs.length/\(cs.drop o).take ((st.length+1)*1)=(((st.reverse.map fun(x:Nat)=>(x:Int))++[(w:Int)]).map rowI).flatten:=by
   rcases hst'.2.2 with⟨_,e⟩ |⟨i,o,cs,e1,e2,e3,e4,e5,e6⟩
   ·simp at e
   ·have hl:(((st.reverse.map fun(x:Nat)=>(x:Int))++[(w:Int)]).map rowI).length=st.length+1:=by simp
    rw[hl]at e1 e5 e6
    exact⟨i,o,cs,e1,e2,e3,e4,e5,e6⟩
  have hsub:Heap.sub M.lim H 1 sc 0 (some (st.length:Int))=some (.slice i o st.length):=by
   rw[d1]
   unfold Heap.sub
   have hneg: ¬(0<(0:Nat)/\0<st.length+1/\M.lim<=i/\H.szBad i 1=true):=fun h=>Nat.lt_irrefl 0 h.1
   simp only[Option.getD_some]
   rw[if_neg (by simp),if_pos ⟨by omega,by omega,by omega⟩]
   simp
  have s17:=j0f (lim:=M.lim) (x:= .slice i o st.length) h.hc (by omega) (o:=4) (by simp)
  generalize hH17:H.put jc _=H17 at s17
  have g17:H17.get jc=some (.cells 7 [gc, .slice jn 0 n, .slice jl 0 n, .slice jo 0 n, .slice i o st.length, .int .i64 (σ.c:Int), .int .i64 (σ.f:Int)]):=by rw[<-hH17,put_same];rfl
  have k17: ∀j,j≠jc->H17.get j=H.get j:=fun j hj=>by rw[<-hH17,q0d hj]
  have ho:=h.ho
  have s26:=j0f (lim:=M.lim) (x:= .int .i64 (σ.f:Int)) (show H17.get jo=_ by rw[k17 jo (Ne.symm n3)];exact ho) (by omega) (o:=w) (by rw[z0L];exact hwn)
  rw[Z0r hwn]at s26
  generalize hH26:H17.put jo _=H26 at s26
  have k26: ∀j,j≠jo->H26.get j=H17.get j:=fun j hj=>by rw[<-hH26,q0d hj]
  have g26:H26.get jc=some (.cells 7 [gc, .slice jn 0 n, .slice jl 0 n, .slice jo 0 n, .slice i o st.length, .int .i64 (σ.c:Int), .int .i64 (σ.f:Int)]):=by rw[k26 jc n3];exact g17
  have x26:H26.next=H.next:=by rw[<-hH26,<-hH17];rfl
  have hij:=h.ap i o _ d1
  have gi:H26.get i=some (.cells 1 cs):=by rw[k26 i hij.2.2.2,k17 i hij.1];exact d4
  have hap: ∀i' o' m,(C.slice i o st.length)= .slice i' o' m->i'≠jc/\i'≠jn/\i'≠jl/\i'≠jo:=fun i' o' m e=>by cases e;exact hij
  have row: ∀l:List Int,(l.map rowI).flatten=l.map fun x=>C.int .i64 x:=fun l=>by
   induction l with
   |nil=>rfl
   |cons x l ih=>simp only[List.map_cons,List.flatten_cons,ih];rfl
  have o26:OInts H26 b (.slice i o st.length) (st.reverse.map fun(x:Nat)=>(x:Int)):=by
   refine⟨by rw[x26];exact h.st.1,fun r hr=>by obtain⟨x,_,rfl⟩:=List.mem_map.1 hr;rfl, .inr ⟨i,o,cs,by simp,d2,by omega,gi,by simp;omega, ?_⟩⟩
   rw[row]at d6⊢
   have:(cs.drop o).take st.length=(((cs.drop o).take ((st.length+1)*1))).take st.length:=by rw[List.take_take,Nat.min_eq_left (by omega)]
   have h2:((st.reverse.map fun(x:Nat)=>(x:Int)).map rowI).length*1=st.length:=by simp
   rw[h2,this,d6,List.map_append,List.take_append_of_le_length (by simp),List.take_of_length_le (by simp)]
  have frb:FrB b H0 H26:=⟨by rw[x26];exact hf.next,fun j hj=>by rw[k26 j (by omega),k17 j (by omega)];exact hf.old j hj⟩
  have lt:=h.lt
  let σ1:TS:={σ with st:=st,of:=fun u=>if u=w then(σ.f:Int)else σ.of u}
  have t26:TSR H26 b jc jn jl jo n gc (.slice i o st.length) σ1:=by
   refine⟨g26, ?_, ?_, ?_,o26,hap,by rw[x26];exact lt⟩
   ·obtain⟨z,hz⟩:=h.hn;exact⟨z,by rw[k26 jn n5,k17 jn (Ne.symm n1)];exact hz⟩
   ·obtain⟨z,hz⟩:=h.hl;exact⟨z,by rw[k26 jl n6,k17 jl (Ne.symm n2)];exact hz⟩
   ·rw[<-hH26,put_same]
  have l17a:Heap.ld H17 jc 3=some (.slice jo 0 n):=by rw[q0x g17];rfl
  have l17b:Heap.ld H17 jc 6=some (.int .i64 (σ.f:Int)):=by rw[q0x g17];rfl
  have l26:Heap.ld H26 jc 6=some (.int .i64 (σ.f:Int)):=by rw[q0x g26];rfl
  by_cases e:w=v
  ·subst e
   have e2:IntKind.wrap .i64 ((σ.f:Int)+1)=((σ.f+1:Nat):Int):=q0b (by omega)
   have s33:=j0f (lim:=M.lim) (x:= .int .i64 ((σ.f+1:Nat):Int)) g26 (by omega) (o:=6) (by simp)
   generalize hH33:H26.put jc _=H33 at s33
   refine⟨H33, .slice i o st.length, ?_,⟨by rw[<-hH33];exact frb.next,fun j hj=>by rw[<-hH33,q0d (by omega)];exact frb.old j hj⟩, ?_⟩
   ·rw[J0N]
    simp only[withP_ptr,Nat.zero_add,l0,oS,hlenC,e1,r1,r2,asI_int,hsub,s17,l17a,l17b,q0g hwn,s26,dY,iT,l26,e2,s33]
   ·have hp:popTo w σ.f (w::st) σ.of=(st,fun u=>if u=w then(σ.f:Int)else σ.of u):=by simp[popTo]
    rw[hp,<-hH33]
    refine⟨by rw[put_same];rfl, ?_, ?_, ?_,j0a o26 fun j p m e=>(hap j p m e).1,hap,t26.lt⟩
    ·obtain⟨z,hz⟩:=t26.hn;exact⟨z,by rw[q0d (Ne.symm n1)];exact hz⟩
    ·obtain⟨z,hz⟩:=t26.hl;exact⟨z,by rw[q0d (Ne.symm n2)];exact hz⟩
    ·rw[q0d (Ne.symm n3)];exact t26.ho
  ·have hvs:v∈st:=(mC.1 hv).resolve_left fun e'=>e e'.symm
   obtain⟨H',sc',z1,z2,z3⟩:=ih H26 (.slice i o st.length) σ1 rfl hvs (fun x hx=>hlt x (by simp[hx])) (by simp only[List.length_cons]at hlen;omega) hfb frb t26
   refine⟨H',sc', ?_,z2, ?_⟩
   ·rw[J0N]
    have hne: ¬((w:Int)=(v:Int)):=by omega
    simp only[withP_ptr,Nat.zero_add,l0,oS,hlenC,e1,r1,r2,asI_int,hsub,s17,l17a,l17b,q0g hwn,s26,hne,dF,bF,iF,z1]
   ·have hp:popTo v σ.f (w::st) σ.of=popTo v σ.f st (fun u=>if u=w then(σ.f:Int)else σ.of u):=by simp[popTo,e]
    rw[hp]
    exact z3
end
end Go.Proofs.Ytglkhoamnmiolaa.R
