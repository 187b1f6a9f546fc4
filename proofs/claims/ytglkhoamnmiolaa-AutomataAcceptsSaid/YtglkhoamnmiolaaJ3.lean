/- - -/
import Derived.Test.YtglkhoamnmiolaaJ2
set_option linter.all false
namespace Go.Proofs.Ytglkhoamnmiolaa.R
open Go Go.Proofs.Ytglkhoamnmiolaa.Vm
theorem j0Q(l:List Int):(l.map rowI).flatten=l.map (C.int .i64):=by
 induction l with
 |nil=>rfl
 |cons x l ih=>simp only[List.map_cons,List.flatten_cons,rowI,List.singleton_append,ih]
theorem Q0s{H:Heap}{lim b:Nat}{c:C}{l:List Int}(h:OInts H b c l)(hl:lim<=b){k:Nat}(hk:k<l.length)(x:Int):
  ∃q H',C.elem 1 c (k:Int)=some q/\Heap.st lim H q.1 q.2 [.int .i64 x]=some H'/\OInts H' b c (l.set k x)/\H'.next=H.next/\ ∀i,i<b->H'.get i=H.get i:=by
 obtain⟨h1,h2,⟨rfl,h3⟩ |⟨i,o,cs,rfl,h3,h4,h5,h6,h7⟩⟩:=h
 ·simp at h3;subst h3;simp at hk
 ·simp only[List.length_map,Nat.mul_one]at h6 h7
  rw[j0Q]at h7
  refine⟨(i,o+k),_, ?_,q0E h5 (by omega) (by omega),⟨by simpa using h1,fun r hr=>by obtain⟨y,_,rfl⟩:=List.mem_map.1 hr;rfl, .inr ⟨i,o,_,by simp,h3,by simpa using h4,put_same _ _ _,by simpa using h6, ?_⟩⟩,rfl,fun j hj=>q0d (by omega)⟩
  ·simp only[C.elem,List.length_map]
   rw[if_pos ⟨by omega,by omega⟩];simp
  ·rw[j0Q,List.length_map,List.length_set,Nat.mul_one,List.drop_set,if_neg (by omega),List.take_set,h7,List.map_set]
   congr 1
   omega
theorem z1z{l cur:List Int}{i:Nat}(hc:cur.length=l.length)(hi:i<l.length - 1 - i)(h: ∀k,k<l.length->cur[k]? =if k<i\/l.length - i<=k then l[l.length - 1 - k]? else l[k]?){x y:Int}(hx:cur[i]? =some x)(hy:cur[l.length - 1 - i]? =some y):
  ∀k,k<l.length->((cur.set i y).set (l.length - 1 - i) x)[k]? =if k<i+1\/l.length - (i+1)<=k then l[l.length - 1 - k]? else l[k]? :=by
 intro k hk
 have e1:=h i (by omega)
 rw[if_neg (by omega),hx]at e1
 have e2:=h (l.length - 1 - i) (by omega)
 rw[if_neg (by omega),hy]at e2
 rw[List.getElem?_set,List.getElem?_set,List.length_set]
 by_cases k1:l.length - 1 - i=k
 ·rw[if_pos k1,if_pos (by omega),if_pos (by omega),<-k1,e1]
  congr 1;omega
 ·rw[if_neg k1]
  by_cases k2:i=k
  ·rw[if_pos k2,if_pos (by omega),if_pos (by omega),<-k2,e2]
  ·rw[if_neg k2,h k hk]
   by_cases k3:k<i\/l.length - i<=k
   ·rw[if_pos k3,if_pos (by omega)]
   ·rw[if_neg k3,if_neg (by omega)]
theorem X0N{M:Mach}{b:Nat}{c:C}{l:List Int}(hl:M.lim<=b)(hn:l.length<=1000000): ∀(d i:Nat) (H:Heap) (cur:List Int),l.length<=i+i+d->i<=l.length->cur.length=l.length->OInts H b c cur->(∀k,k<l.length->cur[k]? =if k<i\/l.length - i<=k then l[l.length - 1 - k]? else l[k]?)->
  ∃H',f112_1 M c (i:Int) ((l.length:Int) - 1 - (i:Int)) H=some (.tuple [],H')/\OInts H' b c l.reverse/\H'.next=H.next/\ ∀i,i<b->H'.get i=H.get i:=by
 have fin: ∀(i:Nat) (H:Heap) (cur:List Int),l.length<=i+i+1->i<=l.length->cur.length=l.length->OInts H b c cur->(∀k,k<l.length->cur[k]? =if k<i\/l.length - i<=k then l[l.length - 1 - k]? else l[k]?)->cur=l.reverse:=by
  intro i H cur h0 hi hc ho h
  refine List.ext_getElem? fun k=> ?_
  by_cases hk:k<l.length
  ·rw[h k hk,List.getElem?_reverse hk]
   split
   ·rfl
   ·congr 1;omega
  ·rw[List.getElem?_eq_none (by omega),List.getElem?_eq_none (by rw[List.length_reverse];omega)]
 intro d
 induction d with
 |zero=>
  intro i H cur h0 hi hc ho h
  have e:=fin i H cur (by omega) hi hc ho h
  subst e
  refine⟨H, ?_,ho,rfl,fun _ _=>rfl⟩
  rw[w0D]
  simp only[show¬((i:Int)<(l.length:Int) - 1 - (i:Int)) by omega,dF,bF,iF]
 |succ d ih=>
  intro i H cur h0 hi hc ho h
  by_cases hlt:i<l.length - 1 - i
  ·have hx:cur[i]? =some cur[i]:=q0a (by omega)
   have hy:cur[l.length - 1 - i]? =some cur[l.length - 1 - i]:=q0a (by omega)
   have ej:(l.length:Int) - 1 - (i:Int)=((l.length - 1 - i:Nat):Int):=by omega
   obtain⟨p1,r1,r2⟩:=ho.ints.read hx
   obtain⟨p2,r3,r4⟩:=ho.ints.read hy
   obtain⟨q1,H1,w1,w2,w3,w4,w5⟩:=Q0s (lim:=M.lim) ho hl (show i<cur.length by omega) cur[l.length - 1 - i]
   obtain⟨q2,H2,w6,w7,w8,w9,w10⟩:=Q0s (lim:=M.lim) w3 hl (show l.length - 1 - i<(cur.set i cur[l.length - 1 - i]).length by rw[List.length_set];omega) cur[i]
   obtain⟨H',z1,z2,z3,z4⟩:=ih (i+1) H2 _ (by omega) (by omega) (by simp[hc]) w8 (z1z hc hlt h hx hy)
   refine⟨H', ?_,z2,by omega,fun j hj=>by rw[z4 j hj,w10 j hj,w5 j hj]⟩
   have ep:p1=q1:=Option.some.inj (r1.symm.trans w1)
   have eq:p2=q2:=Option.some.inj (r3.symm.trans w6)
   subst ep eq
   rw[w0D,ej]
   have e1:IntKind.wrap .i64 ((i:Int)+1)=((i+1:Nat):Int):=q0b (by omega)
   have e2:IntKind.wrap .i64 (((l.length - 1 - i:Nat):Int) - 1)=(l.length:Int) - 1 - ((i+1:Nat):Int):=by rw[q0e (by omega) (by omega)];omega
   simp only[show((i:Int)<((l.length - 1 - i:Nat):Int)) by omega,dY,iT,r1,r2,r3,r4,w1,w2,w6,w7,oS,asI_int,e1,e2,z1]
  ·have e:=fin i H cur (by omega) hi hc ho h
   subst e
   refine⟨H, ?_,ho,rfl,fun _ _=>rfl⟩
   rw[w0D]
   simp only[show¬((i:Int)<(l.length:Int) - 1 - (i:Int)) by omega,dF,bF,iF]
theorem z1A{M:Mach}{b:Nat}{c:C}{l:List Int}{H:Heap}(hl:M.lim<=b)(hn:l.length<=1000000)(ho:OInts H b c l):
  ∃H',f112 M c H=some (.tuple [],H')/\OInts H' b c l.reverse/\H'.next=H.next/\ ∀i,i<b->H'.get i=H.get i:=by
 obtain⟨H',z1,z2⟩:=X0N (M:=M) hl hn l.length 0 H l (by omega) (by omega) rfl ho (fun k hk=>by rw[if_neg (by omega)])
 refine⟨H', ?_,z2⟩
 rw[Q1e]
 have hlen:C.len c=some l.length:=ho.ints.len
 have e:IntKind.wrap .i64 ((l.length:Int) - 1)=(l.length:Int) - 1 - ((0:Nat):Int):=by rw[q0e (by omega) (by omega)];omega
 simp only[hlen,oS,e]
 exact z1
def PredC(M:Mach)(b:Nat)(H0:Heap)(c:C)(n:Nat)(P:Nat->Bool):Prop:=
 ∃q:FuncId×List C×List C,C.asF c=some q/\ ∀H,FrB b H0 H-> ∀v:Nat,v<n->mcall M q.1 (q.2.1.map .c++[.c (.int .i64 (v:Int))]++q.2.2.map .c) H=some (.c (.bool (P v)),H)
structure Wq (H1:Heap) (jp jb n:Nat) (H:Heap) (bf:Nat->Int) (c:C) (q:List Int):Prop where
 tb:H.get jb=some (.cells 1 (fc n bf))
 qq:OInts H H1.next c q
 fr: ∀i,i<H1.next->i≠jb->H.get i=H1.get i
structure Wid (M:Mach) (b:Nat) (H1:Heap) (jp jb n:Nat):Prop where
 hl:M.lim<=b
 lt:b<=jb/\b<=jp/\jb<H1.next/\jp<H1.next/\jp≠jb
 pt:H1.get jp=some (.cells 1 [.slice jb 0 n])
section
variable{M:Mach}{b:Nat}{H0 H1 H:Heap}{jp jb n:Nat}{bf:Nat->Int}{c:C}{q:List Int}
theorem Wq.nx(h:Wq H1 jp jb n H bf c q):H1.next<=H.next:=h.qq.1
theorem Wq.frB(h:Wq H1 jp jb n H bf c q)(I:Wid M b H1 jp jb n)(f:FrB b H0 H1):FrB b H0 H:=
 ⟨nT f.next h.nx,fun i hi=>by have:=I.lt;rw[h.fr i (by omega) (by omega)];exact f.old i hi⟩
theorem Wq.ldp(h:Wq H1 jp jb n H bf c q)(I:Wid M b H1 jp jb n):Heap.ld H jp 0=some (.slice jb 0 n):=by
 have:=I.lt
 have e:H.get jp=some (.cells 1 [.slice jb 0 n]):=by rw[h.fr jp (by omega) (by omega)];exact I.pt
 rw[q0c e];rfl
theorem Wq.ldb(h:Wq H1 jp jb n H bf c q){v:Nat}(hv:v<n):Heap.ld H jb v=some (.int .i64 (bf v)):=by
 rw[q0c h.tb];exact k0B hv
theorem Wq.set(h:Wq H1 jp jb n H bf c q)(I:Wid M b H1 jp jb n){v:Nat}(hv:v<n)(x:Int): ∃H',Heap.st M.lim H jb v [.int .i64 x]=some H'/\Wq H1 jp jb n H' (upd bf v x) c q:=by
 have hlt:=I.lt;have hl:=I.hl
 refine⟨_,q0E h.tb (by omega) (by rw[z0T];exact hv), ?_,j0a h.qq fun j p m e=> ?_,fun i hi hne=>by rw[q0d hne];exact h.fr i hi hne⟩
 ·rw[put_same,Z0y hv];rfl
 ·rcases h.qq.2.2 with⟨e',_⟩ |⟨i,o,cs,e',h2,_⟩
  ·rw[e]at e';cases e'
  ·rw[e]at e';cases e';omega
theorem Wq.push(h:Wq H1 jp jb n H bf c q)(I:Wid M b H1 jp jb n)(x:Int)(hroom:q.length+1<=2 ^ 36):
  Heap.cellsOf (H.alloc (.cells 1 [.int .i64 x])) 1 (.slice H.next 0 1)=some [.int .i64 x]/\ ∃c' H',Heap.app M.lim (H.alloc (.cells 1 [.int .i64 x])) 1 c [.int .i64 x] 1=some (c',H')/\Wq H1 jp jb n H' bf c' (q++[x]):=by
 have hlt:=I.lt;have hl:=I.hl
 obtain⟨a1,c',H',a2,a3,a4,a5⟩:=h.qq.append1 (lim:=M.lim) (by omega) x hroom
 have hn:=h.nx
 have hc: ∀i,i<H1.next-> ∀o n,c≠ .slice i o n:=fun i hi o n e=>by
  rcases h.qq.2.2 with⟨e',_⟩ |⟨i',o',cs,e',h2,_⟩
  ·rw[e]at e';cases e'
  ·rw[e]at e';cases e';omega
 refine⟨a1,c',H',a2, ?_,a3,fun i hi hne=> ?_⟩
 ·rw[a4.keep jb (by omega) (hc jb (by omega))];exact h.tb
 ·rw[a4.keep i (by omega) (hc i hi)];exact h.fr i hi hne
theorem Wq.pop{lim:Nat}{s:Int}(h:Wq H1 jp jb n H bf c (s::q)): ∃p c5,C.elem 1 c 0=some p/\H.ld p.1 p.2=some (.int .i64 s)/\Heap.sub lim H 1 c 1 none=some c5/\Wq H1 jp jb n H bf c5 q:=by
 obtain⟨p,a1,a2⟩:=h.qq.ints.read (j:=0) (v:=s) rfl
 have e0:((0:Nat):Int)=0:=rfl
 rw[e0]at a1
 obtain⟨hb,hr,h0 |⟨i,o,cs,he,h2,h3,h4,h5,h6⟩⟩:=h.qq
 ·simp at h0
 ·simp only[List.map_cons,List.length_cons,List.length_map]at he h5 h6
  subst he
  have hsub:Heap.sub lim H 1 (.slice i o (q.length+1)) 1 none=some (.slice i (o+1) q.length):=by
   have hbad:H.szBad i 1=false:=by simp[Heap.szBad,h4]
   simp only[Heap.sub,hbad,bF,and_false,iF,Option.getD_none]
   rw[if_pos (by omega)]
   simp
  refine⟨p,_,a1,a2,hsub,h.tb,⟨hb,fun r hr'=>hr r (by simp at hr'⊢;exact .inr hr'), .inr ⟨i,o+1,cs,by simp,h2,h3,h4,by simp;omega, ?_⟩⟩,h.fr⟩
  simp only[List.length_map]
  have e:(cs.drop (o+1)).take (q.length*1)=((cs.drop o).take ((q.length+1)*1)).drop 1:=by
   rw[List.drop_take,List.drop_drop];congr 1
  rw[e,h6]
  simp[rowI]
theorem X0O{b1:Nat}(hl:M.lim<=b1)(hjp:jp<b1)(hjb:jb<b1){v:Nat}{l:List Nat}(hbk:Bk bf v l): ∀(H:Heap) (c:C) (out:List Int),(∀x∈l,x<n)->out.length+l.length<=1000000->H.get jb=some (.cells 1 (fc n bf))->H.get jp=some (.cells 1 [.slice jb 0 n])->OInts H b1 c out->
  ∃H' c',f111_1 M (v:Int) (.ptr jp 0) c H=some (.c c',H')/\OInts H' b1 c' (out++l.map fun x=>((x:Nat):Int)).reverse/\ ∀i,i<b1->H'.get i=H.get i:=by
 have push: ∀(H:Heap) (c:C) (out:List Int) (v:Nat),out.length+1<=1000000->v<n->H.get jb=some (.cells 1 (fc n bf))->H.get jp=some (.cells 1 [.slice jb 0 n])->OInts H b1 c out->
   ∃H1 c1,f111_1 M (v:Int) (.ptr jp 0) c H=f111_1 M (bf v) (.ptr jp 0) c1 H1/\OInts H1 b1 c1 (out++[(v:Int)])/\(∀i,i<b1->H1.get i=H.get i)/\H1.get jb=some (.cells 1 (fc n bf))/\H1.get jp=some (.cells 1 [.slice jb 0 n]):=by
  intro H c out v hn hv h1 h2 ho
  obtain⟨a1,c',H',a2,a3,a4,a5⟩:=ho.append1 (lim:=M.lim) hl (v:Int) (by omega)
  have hk: ∀i,i<b1->H'.get i=H.get i:=fun i hi=>a4.keep i (by have:=ho.1;omega) fun o m e=>by
   rcases ho.2.2 with⟨e',_⟩ |⟨i',o',cs,e',h2,_⟩
   ·rw[e]at e';cases e'
   ·rw[e]at e';cases e';omega
  have k1:H'.get jb=some (.cells 1 (fc n bf)):=by rw[hk jb hjb];exact h1
  have k2:H'.get jp=some (.cells 1 [.slice jb 0 n]):=by rw[hk jp hjp];exact h2
  refine⟨H',c', ?_,a3,hk,k1,k2⟩
  rw[J0U]
  simp only[show(0:Int)<=(v:Int) by omega,dY,iT,a1,a2,oS,asP_ptr,q0c k2,List.getElem?_cons_zero,q0j hv,q0c k1,k0B hv,asI_int]
 induction hbk with
 | @first v h0=>
  intro H c out hx hlen h1 h2 ho
  simp only[List.length_cons,List.length_nil]at hlen
  obtain⟨H1,c1,e1,e2,e3,e4,e5⟩:=push H c out v (by omega) (hx v (by simp)) h1 h2 ho
  obtain⟨H',z1,z2,z3,z4⟩:=z1A (M:=M) hl (by simp;omega) e2
  refine⟨H',c1, ?_,z2,fun i hi=>by rw[z4 i hi,e3 i hi]⟩
  rw[e1,h0,J0U]
  simp only[show¬((0:Int)<= -1) by omega,dF,bF,iF,z1,oS]
 | @step v u l h0 _ ih=>
  intro H c out hx hlen h1 h2 ho
  simp only[List.length_cons]at hlen
  obtain⟨H1,c1,e1,e2,e3,e4,e5⟩:=push H c out v (by omega) (hx v (by simp)) h1 h2 ho
  obtain⟨H',c',z1,z2,z3⟩:=ih H1 c1 (out++[(v:Int)]) (fun x hx'=>hx x (by simp[hx'])) (by simp;omega) e4 e5 e2
  refine⟨H',c',by rw[e1,h0];exact z1, ?_,fun i hi=>by rw[z3 i hi,e3 i hi]⟩
  rw[List.map_cons]
  rwa [List.append_assoc,List.singleton_append]at z2
end
def natI(l:List Nat):List Int:=l.map fun x=>((x:Nat):Int)
theorem q0p(l:List Nat):(natI l).length=l.length:=by simp[natI]
theorem w0t{l:List Nat}{k x:Nat}(h:l[k]? =some x):(natI l)[k]? =some (x:Int):=by simp[natI,h]
theorem k0r(l r:List Nat):natI (l++r)=natI l++natI r:=by simp[natI]
def RdI(b:Nat)(H0:Heap)(c:C)(l:List Int):Prop:=
 C.len c=some l.length/\ ∀H,FrB b H0 H-> ∀(j:Nat) (v:Int),l[j]? =some v-> ∃q,C.elem 1 c (j:Int)=some q/\H.ld q.1 q.2=some (.int .i64 v)
theorem RdI.of_uc{b:Nat}{H0:Heap}{F:Nat->Prop}{b0:Bool}{l:List Int}{c:C}(h:UC H0 F (uIs b0 l) [c])(hF: ∀i,F i->i<b):RdI b H0 c l:=
 ⟨J0i h,fun H f j v hj=>by
  obtain⟨i,o,h1,_,h2⟩:=rdN (j0Y h f hF) hj
  exact⟨(i,o),h1,h2⟩⟩
theorem Ints.old{H H':Heap}{c:C}{l:List Int}{b:Nat}(h:Ints H c l)(hb: ∀i o n,c= .slice i o n->i<b)(hk: ∀i,i<b->H'.get i=H.get i)(hn:b<=H'.next):Ints H' c l:=
 ⟨h.1,h.2.imp id fun⟨i,o,z,cs,h1,h2,h3,h4⟩=>⟨i,o,z,cs,h1,nL (hb _ _ _ h1) hn,by rw[hk i (hb _ _ _ h1)];exact h3,h4⟩⟩
theorem RdI.of_ints{b:Nat}{H0:Heap}{l:List Int}{c:C}(h:Ints H0 c l)(hb: ∀i o n,c= .slice i o n->i<b):RdI b H0 c l:=
 ⟨h.len,fun H f j v hj=>(Ints.old h hb f.old f.next).read hj⟩
def WayEnd(H1:Heap)(jb n m:Nat)(rows:List (Bool×List Int))(P Q:Nat->Bool)(src:Nat->Prop)(r:Rs):Prop:=
 (∃H' c l,r=some (.tuple [.c c, .c (.bool true)],H')/\H1.next<=H'.next/\(∀i,i<H1.next->i≠jb->H'.get i=H1.get i)/\OInts H' H1.next c (natI l)/\WayR (nxL rows) P Q src n m l)\/
 (∃H',r=some (.tuple [.c .nilSlice, .c (.bool false)],H')/\H1.next<=H'.next/\(∀i,i<H1.next->i≠jb->H'.get i=H1.get i)/\NoWay (nxL rows) P Q src m)
section
variable{M:Mach}{b:Nat}{H0 H1:Heap}{F:Nat->Prop}{jp jb n m:Nat}{g pm ak:C}{bb:Bool}{rows:List (Bool×List Int)}{src:Nat->Prop}{P Q:Nat->Bool}
variable(I:Wid M b H1 jp jb n)(f1:FrB b H0 H1)(hF: ∀i,F i->i<b)(hg:UC H0 F (uLs bb rows) [g])(hT:Table n rows)(hn:n<=1000000)(hP:PredC M b H0 pm n P)(hQ:PredC M b H0 ak n Q)(hm:m<=1)
include I f1 hF hg hT hn hP hQ hm
theorem q1F{x:Nat}(hx:x<n){r:Bool×List Int}(hr:rows[x]? =some r){c7:C}(h7:UC H0 F (uIs r.1 r.2) [c7]){d:Nat}(hd:d<=3000000)
  (ih: ∀(H:Heap) (bf:Nat->Int) (c:C) (op:List Int) (mk:List Nat),Wq H1 jp jb n H bf c op->(n - mk.length)+op.length<=d->WS rows n P Q src bf mk op none->WayEnd H1 jb n m rows P Q src (f99_3 M g pm ak (.ptr jp 0) c (.func 111 [] [.ptr jp 0]) H)):
  ∀(e k:Nat) (H:Heap) (bf:Nat->Int) (c:C) (op:List Int) (mk:List Nat),k+e=r.2.length->Wq H1 jp jb n H bf c op->(n - mk.length)+op.length<=d->WS rows n P Q src bf mk op (some (x,k))->
   WayEnd H1 jb n m rows P Q src (f99_4 M g pm ak (.ptr jp 0) c (.func 111 [] [.ptr jp 0]) (x:Int) c7 (r.2.length:Int) (k:Int) H):=by
 have hrx:rows.getD x (false,[])=r:=by rw[lG,hr];rfl
 have hlen:=Z0R hT hr
 obtain⟨p,hp1,hp2⟩:=hP
 obtain⟨q,hq1,hq2⟩:=hQ
 intro e
 induction e with
 |zero=>
  intro k H bf c op mk hk ho hd' hI
  rw[W0J]
  simp only[show¬((k:Int)<(r.2.length:Int)) by omega,dF,bF,iF]
  exact ih H bf c op mk ho hd' (hI.left hT (by rw[hrx];omega))
 |succ e ihe=>
  intro k H bf c op mk hk ho hd' hI
  have hlt:k<r.2.length:=by omega
  obtain⟨y0,y1⟩:=hT.2.1 _ (List.mem_of_getElem? hr) _ (lM hlt)
  obtain⟨y,hy⟩:=iZ y0
  have hget:r.2[k]? =some (y:Int):=by rw[q0a hlt,hy]
  have hget':(rows.getD x (false,[])).2[k]? =some (y:Int):=by rw[hrx];exact hget
  have hyn:y<n:=by omega
  have fH:=ho.frB I f1
  obtain⟨i2,o2,k1,k2,k3⟩:=rdN (j0Y h7 fH hF) hget
  have eI:IntKind.wrap .i64 ((k:Int)+1)=((k+1:Nat):Int):=q0b (by omega)
  have hy1:y∈nxL rows x:=(q0J hT).2 (List.mem_of_getElem? hget')
  have q1:=hp2 H fH y hyn
  have q2:=hq2 H fH y hyn
  rw[W0J]
  simp only[show((k:Int)<(r.2.length:Int)) by omega,dY,iT,k1,k3,oS,asI_int,hp1,q1,asC_c,asB_bool]
  cases hPy:P y with
  |false=>
   simp only[Bool.not_false,iT,eI]
   exact ihe (k+1) H bf c op mk (by omega) ho hd' (hI.skip hget' fun h=>by rw[hPy]at h;cases h)
  |true=>
   simp only[Bool.not_true,bF,iF,hq1,q2,oS,asC_c,asB_bool,asF_func]
   cases hQy:Q y with
   |true=>
    obtain⟨l,l1,l2,l3⟩:=hI.found hy1 hyn hPy hQy hm
    have hlt':=I.lt
    have hjp:H.get jp=some (.cells 1 [.slice jb 0 n]):=by rw[ho.fr jp (by omega) (by omega)];exact I.pt
    have ln: ∀z∈l,z<n:=fun z hz=>l3.lt z (mA.2 (.inl (List.mem_reverse.2 hz)))
    obtain⟨H',c',z1,z2,z3⟩:=X0O (M:=M) (n:=n) (b1:=H1.next) (by have:=I.hl;omega) (by omega) (by omega) l1 H .nilSlice [] ln (by simp;omega) ho.tb hjp (Own.nil ho.nx 1)
    rw[List.nil_append]at z2
    have e2:(l.map fun x=>((x:Nat):Int)).reverse=natI l.reverse:=by simp[natI]
    rw[e2]at z2
    have z1':mcall M 111 (([]:List C).map V.c++[.c (.int .i64 (x:Int))]++[C.ptr jp 0].map V.c) H=some (.c c',H'):=by
     have:f111 M (x:Int) (.ptr jp 0) H=some (.c c',H'):=by rw[Q1d];exact z1
     exact this
    obtain⟨a1,c2,H2,a2,a3,a4,a5⟩:=z2.append1 (lim:=M.lim) (by have:=I.hl;omega) (y:Int) (by rw[q0p,List.length_reverse];omega)
    refine .inl ⟨H2,c2,l.reverse++[y], ?_,a3.1,fun i hi hne=> ?_,by rw[k0r];exact a3,l3⟩
    ·simp only[iT,z1',oS,asC_c,a1,a2]
    ·rw[a4.keep i (by have:=z2.1;omega) fun o s e=>by
      rcases z2.2.2 with⟨e',_⟩ |⟨i',o',cs,e',h2,_⟩
      ·rw[e]at e';cases e'
      ·rw[e]at e';cases e';omega,z3 i hi]
     exact ho.fr i hi hne
   |false=>
    simp only[bF,iF,asP_ptr,ho.ldp I,oS,q0j hyn,ho.ldb hyn,asI_int]
    by_cases hb:bf y= -2
    ·obtain⟨H8,m1,m2⟩:=ho.set I hyn (x:Int)
     have hml:=hI.m.len
     obtain⟨q3,c',H',q4,q5⟩:=m2.push I (y:Int) (by omega)
     have hnl:mk.length<n:=by
      have h9:=(hI.mark hT hget' hyn hPy hQy hb).m.len
      rw[List.length_append]at h9;simp at h9;omega
     simp only[hb,dY,iT,m1,oS,q3,q4,W0K,eI]
     exact ihe (k+1) H' _ c' _ _ (by omega) q5 (by simp only[List.length_append,List.length_cons,List.length_nil];omega) (hI.mark hT hget' hyn hPy hQy hb)
    ·simp only[hb,dF,bF,iF,W0K,eI]
     exact ihe (k+1) H bf c op mk (by omega) ho hd' (hI.skip hget' fun _=>⟨(hI.m.iff y).1 hb,hQy⟩)
theorem q1G(h0:m=0-> ∀s,src s->Q s=false): ∀(d:Nat),d<=3000000-> ∀(H:Heap) (bf:Nat->Int) (c:C) (op:List Int) (mk:List Nat),Wq H1 jp jb n H bf c op->(n - mk.length)+op.length<=d->WS rows n P Q src bf mk op none->WayEnd H1 jb n m rows P Q src (f99_3 M g pm ak (.ptr jp 0) c (.func 111 [] [.ptr jp 0]) H):=by
 have stop: ∀(H:Heap) (bf:Nat->Int) (c:C) (mk:List Nat),Wq H1 jp jb n H bf c []->WS rows n P Q src bf mk [] none->WayEnd H1 jb n m rows P Q src (f99_3 M g pm ak (.ptr jp 0) c (.func 111 [] [.ptr jp 0]) H):=fun H bf c mk ho hI=>by
  refine .inr ⟨H, ?_,ho.nx,ho.fr,h0,fun s u w h1 h2 h3 h4=>hI.done h1 h2 h3 h4⟩
  rw[W0I]
  have hlen:C.len c=some 0:=by have:=ho.qq.ints.len;simpa using this
  simp only[hlen,oS,show¬((0:Int)<((0:Nat):Int)) by omega,dF,bF,iF]
 intro d
 induction d with
 |zero=>
  intro _ H bf c op mk ho hd hI
  have:op=[]:=List.length_eq_zero_iff.1 (by omega)
  subst this
  exact stop H bf c mk ho hI
 |succ d ih=>
  intro hdn H bf c op mk ho hd hI
  cases op with
  |nil=>exact stop H bf c mk ho hI
  |cons x op=>
   obtain⟨j,rfl,g3⟩:=hI.ops x (by simp)
   have g2:=hI.m.lt j g3
   obtain⟨p,c5,p1,p2,p3,p4⟩:=ho.pop (lim:=M.lim)
   have hr:rows[j]? =some (rows[j]'(by rw[hT.1];exact g2)):=q0a (by rw[hT.1];exact g2)
   obtain⟨i1,o1,c7,r1,r2,r3,r4⟩:=rdL hg hr
   have r3':Heap.ld H i1 o1=some c7:=by
    have hk:=(ho.frB I f1).old i1 (hF i1 r2)
    unfold Heap.ld at r3⊢
    rw[hk];exact r3
   have hlen:C.len c=some (op.length+1):=by have:=ho.qq.ints.len;simpa using this
   have hrl:=J0i r4
   simp only[List.length_cons]at hd
   have:=q1F I f1 hF hg hT hn hP hQ hm (src:=src) g2 hr r4 (d:=d) (by omega) (ih (by omega)) _ 0 H bf c5 op mk (Nat.zero_add _) p4 (by omega) hI.take
   rw[W0I]
   simp only[hlen,oS,show((0:Int)<((op.length+1:Nat):Int)) by omega,dY,iT,p1,p2,asI_int,p3,r1,r3',hrl]
   exact this
end
section
variable{M:Mach}{b:Nat}{H0 H1:Heap}{F:Nat->Prop}{jp jb n m:Nat}{g pm ak:C}{bb:Bool}{rows:List (Bool×List Int)}{from':List Nat}{P Q:Nat->Bool}
variable(I:Wid M b H1 jp jb n)(f1:FrB b H0 H1)(hF: ∀i,F i->i<b)(hg:UC H0 F (uLs bb rows) [g])(hT:Table n rows)(hn:n<=1000000)(hP:PredC M b H0 pm n P)(hQ:PredC M b H0 ak n Q)(hm:m<=1)
variable{vf:C}(hv:RdI b H0 vf (natI from'))(hfl:from'.length<=1000000)(hfn: ∀s∈from',s<n)
include I f1 hF hg hT hn hP hQ hm hv hfl hfn
theorem q1H: ∀(d i:Nat) (H:Heap) (bf:Nat->Int) (c:C) (mk:List Nat),i+d=from'.length->Wq H1 jp jb n H bf c (natI mk)->WM (nxL rows) P (· ∈from') n bf mk->(∀s∈from'.take i,s∈mk)->(m=0-> ∀s∈from'.take i,Q s=false)->
  WayEnd H1 jb n m rows P Q (· ∈from') (f99_1 M g (m:Int) pm ak (.ptr jp 0) c (.func 111 [] [.ptr jp 0]) vf (from'.length:Int) (i:Int) H):=by
 intro d
 induction d with
 |zero=>
  intro i H bf c mk hi ho hw h1 h2
  rw[List.take_of_length_le (by omega)]at h1 h2
  rw[W0G]
  simp only[show¬((i:Int)<(from'.length:Int)) by omega,dF,bF,iF]
  have hml:=hw.len
  refine q1G I f1 hF hg hT hn hP hQ hm h2 (n - mk.length+(natI mk).length) (by rw[q0p];omega) H bf c (natI mk) mk ho (nR _) ⟨hw,fun x hx=> ?_,h1,fun x hx=> .inl (List.mem_map.2 ⟨x,hx,rfl⟩),fun x k e=>(by cases e)⟩
  obtain⟨y,y1,y2⟩:=List.mem_map.1 hx
  exact⟨y,y2.symm,y1⟩
 |succ d ih=>
  intro i H bf c mk hi ho hw h1 h2
  have hlt:i<from'.length:=by omega
  have hgi:from'[i]? =some from'[i]:=q0a hlt
  generalize hs:from'[i]=s at hgi
  have hsm:s∈from':=List.mem_of_getElem? hgi
  have hsn:=hfn s hsm
  have htk:from'.take (i+1)=from'.take i++[s]:=by rw[List.take_succ,hgi];rfl
  have fH:=ho.frB I f1
  obtain⟨⟨i2,o2⟩,k1,k2⟩:=hv.2 H fH i (s:Int) (w0t hgi)
  have eI:IntKind.wrap .i64 ((i:Int)+1)=((i+1:Nat):Int):=q0b (by omega)
  obtain⟨q,hq1,hq2⟩:=hQ
  have q2:=hq2 H fH s hsn
  have go:(m=0->Q s=false)->WayEnd H1 jb n m rows P Q (· ∈from') ((Heap.ld H jb s).bind fun c13=>(C.asI .i64 c13).bind fun n14=>
    (if(decide (n14=(-2)))=true then
    (V.asP (.c (C.ptr jp 0))).bind fun a15=>
    (Heap.ld H a15.1 a15.2).bind fun c16=>
    (C.elem 1 c16 (s:Int)).bind fun q17=>
    (Heap.st M.lim H q17.1 q17.2 [(.int .i64 (-1))]).bind fun H18=>
    let H19:=Heap.alloc H18 (.cells 1 [(.int .i64 (s:Int))])
    (Heap.cellsOf H19 1 (.slice H18.next 0 1)).bind fun xs20=>
    (Heap.app M.lim H19 1 c xs20 1).bind fun q21=>
    f99_2 M g (m:Int) pm ak (.ptr jp 0) q21.1 (.func 111 [] [.ptr jp 0]) vf (from'.length:Int) (i:Int) q21.2
    else
    f99_2 M g (m:Int) pm ak (.ptr jp 0) c (.func 111 [] [.ptr jp 0]) vf (from'.length:Int) (i:Int) H)):=by
   intro hQs
   have h2':m=0-> ∀z∈from'.take (i+1),Q z=false:=fun hm0 z hz=>by
    rw[htk]at hz
    rcases mA.1 hz with g |g
    ·exact h2 hm0 z g
    ·rw[show z=s by simpa using g];exact hQs hm0
   by_cases hb:bf s= -2
   ·obtain⟨H8,m1,m2⟩:=ho.set I hsn (-1)
    have hml:=hw.len
    obtain⟨q3,c',H',q4,q5⟩:=m2.push I (s:Int) (by rw[q0p];omega)
    simp only[ho.ldb hsn,oS,asI_int,hb,dY,iT,asP_ptr,ho.ldp I,q0j hsn,m1,q3,q4,W0H,eI]
    refine ih (i+1) H' _ c' (mk++[s]) (by omega) (by rw[k0r];exact q5) (hw.add hsn hb (.inl ⟨rfl,hsm⟩)) (fun z hz=> ?_) h2'
    rw[htk]at hz
    rcases mA.1 hz with g |g
    ·exact mA.2 (.inl (h1 z g))
    ·exact mA.2 (.inr g)
   ·simp only[ho.ldb hsn,oS,asI_int,hb,dF,bF,iF,W0H,eI]
    refine ih (i+1) H bf c mk (by omega) ho hw (fun z hz=> ?_) h2'
    rw[htk]at hz
    rcases mA.1 hz with g |g
    ·exact h1 z g
    ·rw[show z=s by simpa using g];exact(hw.iff s).1 hb
  rw[W0G]
  simp only[show((i:Int)<(from'.length:Int)) by omega,dY,iT,k1,k2,oS,asI_int]
  by_cases hm0:m=0
  ·have e0:((m:Int)=0):=by omega
   simp only[e0,dY,iT,hq1,q2,oS,asC_c,asB_bool]
   cases hQs:Q s with
   |true=>
    simp only[iT]
    refine .inl ⟨_,_,[s],rfl,nT ho.nx (Nat.le_succ _),fun j hj hne=>by rw[q0g (by have:=ho.nx;omega)];exact ho.fr j hj hne,OInts.lit H ho.nx [(s:Int)] rfl rfl,⟨trivial,⟨s,rfl,hsm⟩,⟨s,rfl,hQs⟩,⟨by simp;omega,by simp⟩,fun z hz=>by rw[show z=s by simpa using hz];exact hsn⟩⟩
   |false=>
    have:=go fun _=>hQs
    rw[show(0:Int)=(m:Int) by omega]
    simp only[bF,iF,asP_ptr,ho.ldp I,oS,q0j hsn]at this⊢
    exact this
  ·have e0: ¬((m:Int)=0):=by omega
   have:=go fun h=>absurd h hm0
   simp only[e0,dF,bF,iF,oS,asP_ptr,ho.ldp I,q0j hsn]at this⊢
   exact this
end
section
variable{lim:Nat}{M:YM}(hM:CallsY lim M.ext){H:Heap}{F:Nat->Prop}{n m:Nat}{g pm ak:C}{bb:Bool}{rows:List (Bool×List Int)}{from':List Nat}{P Q:Nat->Bool}
variable(hl:lim<=H.next)(hF: ∀i,F i->i<H.next)(hg:UC H F (uLs bb rows) [g])(hT:Table n rows)(hn:n<=1000000)(hP:PredC (MH lim) H.next H pm n P)(hQ:PredC (MH lim) H.next H ak n Q)(hm:m<=1)
variable{vf:C}(hv:RdI H.next H vf (natI from'))(hfl:from'.length<=1000000)(hfn: ∀s∈from',s<n)
include hM hl hF hg hT hn hP hQ hm hv hfl hfn
theorem q1I:(∃H' c l,f99 (MH lim) g vf (m:Int) pm ak H=some (.tuple [.c c, .c (.bool true)],H')/\Grow H H'/\OInts H' H.next c (natI l)/\WayR (nxL rows) P Q (· ∈from') n m l)\/
  (∃H',f99 (MH lim) g vf (m:Int) pm ak H=some (.tuple [.c .nilSlice, .c (.bool false)],H')/\Grow H H'/\NoWay (nxL rows) P Q (· ∈from') m):=by
 have hk:C.len g=some n:=by have:=UC.lenC hg;rw[<-hT.1];simpa using this
 have o1:Ints (H.alloc (.cells 1 [.int .i64 (-2)])) (.slice H.next 0 1) [-2]:=⟨fun r hr=>by obtain⟨x,_,rfl⟩:=List.mem_map.1 hr;rfl, .inr ⟨H.next,0,1,_,rfl,by simp,alloc_new _ _,by simp,rfl⟩⟩
 obtain⟨jb,H3,h1,h2,h3,h4,h5⟩:=w1r hM o1 (n:=n) hn (by simp;omega)
 have n5:=h2.next
 simp only[alloc_next]at n5 h3
 have st1:=q0E (lim:=(MH lim).lim) (x:= .slice jb 0 n) (alloc_new H3 (.cells 1 [C.nilSlice])) (show lim<=H3.next by omega) (o:=0) (by simp)
 generalize hH6:(H3.alloc (.cells 1 [C.nilSlice])).put H3.next _=H6 at st1
 have g6:H6.get H3.next=some (.cells 1 [.slice jb 0 n]):=by rw[<-hH6,put_same];rfl
 have k6: ∀i,i<H3.next->H6.get i=H3.get i:=fun i hi=>by rw[<-hH6,q0d (by omega),q0g hi]
 have n6:H6.next=H3.next+1:=by rw[<-hH6];rfl
 have k0: ∀i,i<H.next->H6.get i=H.get i:=fun i hi=>by rw[k6 i (by omega),h2.keep i (by simp;omega),q0g hi]
 have f1:FrB H.next H H6:=⟨by omega,k0⟩
 have I:Wid (MH lim) H.next H6 H3.next jb n:=⟨hl,⟨by omega,by omega,by omega,by omega,by omega⟩,g6⟩
 have tb0:H6.get jb=some (.cells 1 (fc n fun _=> -2)):=by rw[k6 jb h4,h5,<-w0s]
 have w0:Wq H6 H3.next jb n H6 (fun _=> -2) .nilSlice (natI []):=⟨tb0,Own.nil (nR _) 1,fun _ _ _=>rfl⟩
 have hfv:C.len vf=some from'.length:=by have:=hv.1;rwa [q0p]at this
 have key:=q1H I f1 hF hg hT hn hP hQ hm hv hfl hfn from'.length 0 H6 (fun _=> -2) .nilSlice [] (by omega) w0 WM.nil (fun s h=>by simp at h) (fun _ s h=>by simp at h)
 have e:f99 (MH lim) g vf (m:Int) pm ak H=f99_1 (MH lim) g (m:Int) pm ak (.ptr H3.next 0) .nilSlice (.func 111 [] [.ptr H3.next 0]) vf (from'.length:Int) ((0:Nat):Int) H6:=by
  rw[Z1v]
  simp only[hk,h1,st1,hfv,oS,asC_c]
  rfl
 rw[e]
 have gr: ∀H':Heap,H6.next<=H'.next->(∀i,i<H6.next->i≠jb->H'.get i=H6.get i)->Grow H H':=fun H' a1 a2=>⟨by omega,fun i hi=>by rw[a2 i (by omega) (by omega),k0 i hi]⟩
 rcases key with⟨H',c,l,a1,a2,a3,a4,a5⟩ |⟨H',a1,a2,a3,a4⟩
 ·exact .inl ⟨H',c,l,a1,gr H' a2 a3,Own.low a4 (by omega),a5⟩
 ·exact .inr ⟨H',a1,gr H' a2 a3,a4⟩
end
section
variable{nx:Nat->List Nat}{P P':Nat->Bool}
theorem W0Y{u v:Nat}(h:Rch nx u v):u=v\/ ∃w,Rch nx u w/\v∈nx w:=by
 induction h with
 |refl=>exact .inl rfl
 | @step u w v h1 h2 ih=>
  rcases ih with e |⟨w',a,b⟩
  ·subst e;exact .inr ⟨u, .refl u,h1⟩
  ·exact .inr ⟨w', .step h1 a,b⟩
theorem Both.symm{u v:Nat}(h:Both nx u v):Both nx v u:=⟨h.2,h.1⟩
theorem Both.trans{u v w:Nat}(h:Both nx u v)(k:Both nx v w):Both nx u w:=⟨h.1.trans k.1,k.2.trans h.2⟩
theorem w1v{g:Nat}(hP: ∀y,Both nx g y->P y=true){x y:Nat}(h:Rch nx x y):Both nx g x->Both nx g y->Rch (fun z=>(nx z).filter P) x y:=by
 induction h with
 |refl=>exact fun _ _=> .refl _
 | @step u w v h1 h2 ih=>
  intro hx hy
  have hw:Both nx g w:=⟨hx.1.trans (.one h1),h2.trans hy.2⟩
  exact .step (List.mem_filter.2 ⟨h1,hP w hw⟩) (ih hw hy)
theorem Q1O{g:Nat}(hP: ∀y,Both nx g y->P y=true)(hi: ∃a b,b∈nx a/\Both nx g a/\Both nx g b){x t:Nat}(hx:Both nx g x)(ht:Both nx g t): ∃u,Rch (fun z=>(nx z).filter P) x u/\t∈nx u/\P t=true:=by
 obtain⟨a,b,hab,ga,gb⟩:=hi
 have h1:=w1v hP (hx.2.trans ga.1) hx ga
 have h2:=w1v hP (gb.2.trans ht.1) gb ht
 rcases W0Y h2 with e |⟨w,w1,w2⟩
 ·subst e;exact⟨a,h1,hab,hP _ ht⟩
 ·exact⟨w,h1.trans (.step (List.mem_filter.2 ⟨hab,hP b gb⟩) w1),(List.mem_filter.1 w2).1,hP t ht⟩
theorem Leads.all: ∀{a:Nat} {r:List Nat},Leads nx P (a::r)-> ∀y∈r,P y=true
 |a,[],_,y,hy=>by cases hy
 |a,b::r,h,y,hy=>by
  rcases mC.1 hy with e |e
  ·rw[e];exact h.2.1
  ·exact Leads.all h.2.2 y e
theorem Leads.mono(h: ∀y,P y=true->P' y=true): ∀{l:List Nat},Leads nx P l->Leads nx P' l
 | [],_=>trivial
 | [_],_=>trivial
 |a::b::r,hl=>⟨hl.1,h b hl.2.1,Leads.mono h (l:=b::r) hl.2.2⟩
end
def cnt(ls:List (List Bool))(g:Nat):Nat->Nat
 | 0=>0
 |k+1=>cnt ls g k+if(ls.getD k []).getD g false=true then 0 else 1
theorem W0Z(ls:List (List Bool))(g:Nat): ∀k,cnt ls g k<=k
 | 0=>nR _
 |k+1=>by
  have:=W0Z ls g k
  simp only[cnt];split<;>omega
theorem inB_getD{l:List Bool}{g:Nat}:l.getD g false=true↔inB l g:=by
 rw[lG]
 unfold inB
 cases l[g]? with
 |none=>simp
 |some b=>simp
structure LpI (nx:Nat->List Nat) (g n:Nat) (P:Nat->Bool) (ls:List (List Bool)) (k:Nat) (lp:List Nat):Prop where
 head:lp.head?=some g
 lead:Leads nx P lp
 both: ∀x∈lp,Both nx g x
 meets: ∀j,j<k-> ∃t∈lp,inB (ls.getD j []) t
 len:lp.length<=1+n*cnt ls g k
 lt: ∀x∈lp,x<n
section
variable{nx:Nat->List Nat}{g n:Nat}{P Q:Nat->Bool}{ls:List (List Bool)}{k:Nat}{lp:List Nat}
theorem LpI.start(hg:g<n):LpI nx g n P ls 0 [g]:=
 ⟨rfl,trivial,fun x hx=>by rw[show x=g by simpa using hx];exact Both.refl nx g,fun j hj=>absurd hj (Nat.not_lt_zero _),by simp[cnt],fun x hx=>by rw[show x=g by simpa using hx];exact hg⟩
theorem LpI.skip(h:LpI nx g n P ls k lp)(hk: ∃t∈lp,inB (ls.getD k []) t):LpI nx g n P ls (k+1) lp:=
 ⟨h.head,h.lead,h.both,fun j hj=>by
  by_cases e:j=k
  ·subst e;exact hk
  ·exact h.meets j (by omega),by
  have:=h.len
  have h2:cnt ls g k<=cnt ls g (k+1):=by simp only[cnt];omega
  have:=Nat.mul_le_mul_left n h2
  omega,h.lt⟩
theorem J0o{x:Nat}{l:List Nat}(h:WayR nx P Q (· ∈[x]) n 1 l): ∃r,l=x::r/\r≠[]/\r.length<=n/\ ∃w,r.getLast?=some w/\Q w=true:=by
 obtain⟨s,h1,h2⟩:=h.first
 obtain⟨w,h3,h4⟩:=h.last
 have hl:=h.len
 cases l with
 |nil=>cases h1
 |cons a r=>
  have e:a=x:=by
   cases h1;simpa using h2
  subst e
  cases r with
  |nil=>simp at hl
  |cons b r=>
   refine⟨b::r,rfl,by simp,by simp at hl⊢;omega,w, ?_,h4⟩
   rw[<-h3,List.getLast?_cons_cons]
theorem LpI.ne(h:LpI nx g n P ls k lp):lp≠[]:=fun e=>by have:=h.head;rw[e]at this;cases this
theorem LpI.leg(h:LpI nx g n P ls k lp)(hP: ∀y,y<n->P y=true->Both nx g y){x:Nat}(hx:lp.getLast?=some x){r:List Nat}(hw:WayR nx P Q (· ∈[x]) n 1 (x::r))(hr:r≠[]):Leads nx P (lp++r)/\(∀y∈r,Both nx g y)/\ ∀y∈r,y<n:=
 ⟨h.lead.join hx hw.lead,fun y hy=>hP y (hw.lt y (by simp[hy])) (hw.lead.all y hy),fun y hy=>hw.lt y (by simp[hy])⟩
theorem LpI.more(h:LpI nx g n P ls k lp)(hP: ∀y,y<n->P y=true->Both nx g y)(hno: ¬ ∃t∈lp,inB (ls.getD k []) t){x:Nat}(hx:lp.getLast?=some x){r:List Nat}(hw:WayR nx P Q (· ∈[x]) n 1 (x::r))(hQ: ∀w,Q w=true->inB (ls.getD k []) w):LpI nx g n P ls (k+1) (lp++r):=by
 obtain⟨r',e,r1,r2,w,r3,r4⟩:=J0o hw
 cases e
 obtain⟨a1,a2,a3⟩:=h.leg hP hx hw r1
 refine⟨?_,a1,fun y hy=> ?_,fun j hj=> ?_, ?_,fun y hy=> ?_⟩
 ·rw[List.head?_append,h.head];rfl
 ·rcases mA.1 hy with e |e
  ·exact h.both y e
  ·exact a2 y e
 ·by_cases e:j=k
  ·subst e
   exact⟨w,mA.2 (.inr (List.mem_of_getLast? r3)),hQ w r4⟩
  ·obtain⟨t,t1,t2⟩:=h.meets j (by omega)
   exact⟨t,mA.2 (.inl t1),t2⟩
 ·have hgm:g∈lp:=List.mem_of_head? h.head
  have hng: ¬(ls.getD k []).getD g false=true:=fun e=>hno ⟨g,hgm,inB_getD.1 e⟩
  have:=h.len
  simp only[cnt,if_neg hng,List.length_append]
  rw[Nat.mul_add]
  omega
 ·rcases mA.1 hy with e |e
  ·exact h.lt y e
  ·exact a3 y e
end
structure LassoR (nx:Nat->List Nat) (n:Nat) (src:Nat->Prop) (may:Nat->Bool) (ls:List (List Bool)) (pre lp:List Nat):Prop where
 lead: ∃g,lp.head?=some g/\may g=true/\Leads nx (fun _=>true) (pre++lp++[g])/\lp.length<=n+n*cnt ls g ls.length
 first: ∃s,(pre++lp).head?=some s/\src s
 meets: ∀j,j<ls.length-> ∃t∈lp,inB (ls.getD j []) t
 plen:pre.length<=n
 lt: ∀x∈pre++lp,x<n
section
variable{nx:Nat->List Nat}{g n:Nat}{P Q Q':Nat->Bool}{ls:List (List Bool)}{lp:List Nat}{src:Nat->Prop}{may:Nat->Bool}
theorem LpI.close(h:LpI nx g n P ls ls.length lp)(hP: ∀y,y<n->P y=true->Both nx g y){x:Nat}(hx:lp.getLast?=some x){r:List Nat}(hw:WayR nx P Q (· ∈[x]) n 1 (x::(r++[g])))(hm:may g=true){pre:List Nat}(hp:WayR nx (fun _=>true) Q' src n 0 (pre++[g])):LassoR nx n src may ls pre (lp++r):=by
 obtain⟨a1,a2,a3⟩:=h.leg hP hx hw (by simp)
 have hl:=hw.len
 have hpl:=hp.len
 have hlead:Leads nx (fun _=>true) (lp++(r++[g])):=a1.mono fun _ _=>rfl
 obtain⟨lp',e⟩: ∃lp',lp=g::lp':=by
  cases lp with
  |nil=>exact absurd rfl h.ne
  |cons a l=>have:=h.head;cases this;exact⟨l,rfl⟩
 refine⟨⟨g, ?_,hm, ?_, ?_⟩, ?_,fun j hj=> ?_, ?_,fun y hy=> ?_⟩
 ·rw[List.head?_append,h.head];rfl
 ·have:Leads nx (fun _=>true) ((pre++[g])++(lp'++(r++[g]))):=by
   refine hp.lead.join (v:=g) (by simp) ?_
   rw[e]at hlead
   exact hlead
  rw[e]
  simpa using this
 ·have:=h.len
  simp only[List.length_cons,List.length_append,List.length_nil]at hl⊢
  omega
 ·obtain⟨s,s1,s2⟩:=hp.first
  refine⟨s, ?_,s2⟩
  rw[<-s1,e]
  cases pre<;>rfl
 ·obtain⟨t,t1,t2⟩:=h.meets j hj
  exact⟨t,mA.2 (.inl t1),t2⟩
 ·simp only[List.length_append,List.length_cons,List.length_nil]at hpl;omega
 ·rcases mA.1 hy with e |e
  ·exact hp.lt y (mA.2 (.inl e))
  ·rcases mA.1 e with e |e
   ·exact h.lt y e
   ·exact a3 y (mA.2 (.inl e))
theorem Z1U(hP: ∀y,Both nx g y->P y=true)(hi: ∃a b,b∈nx a/\Both nx g a/\Both nx g b){x t:Nat}(hx:Both nx g x)(ht:Both nx g t)(hq:Q t=true): ¬NoWay nx P Q (· ∈[x]) 1:=by
 intro h
 obtain⟨u,u1,u2,u3⟩:=Q1O hP hi hx ht
 have:=h.2 x u t (by simp) u1 u2 u3
 rw[hq]at this;cases this
theorem q1E{may good:Nat->Bool}(h:NoWay nx (fun _=>true) (fun v=>good v&&may v) src 0){s v:Nat}(hs:src s)(hv:Rch nx s v)(hg:good v=true):may v=false:=by
 have e:(fun x=>(nx x).filter fun _=>true)=nx:=by funext x;simp
 have:(good v&&may v)=false:=by
  rcases W0Y hv with e2 |⟨w,w1,w2⟩
  ·subst e2;exact h.1 rfl s hs
  ·exact h.2 s w v hs (by rw[e];exact w1) w2 rfl
 rw[hg,Bool.true_and]at this
 exact this
end
theorem w0L{H:Heap}{b:Nat}{c:C}{l1 l2 l3:List Int}(lim:Nat)(h:OInts H b c (l1++l2++l3)): ∃c',Heap.sub lim H 1 c (l1.length:Int) (some ((l1.length+l2.length:Nat):Int))=some c'/\OInts H b c' l2:=by
 obtain⟨hb,hr,⟨rfl,h3⟩ |⟨i,o,cs,rfl,h3,h4,h5,h6,h7⟩⟩:=h
 ·have e:l1++l2++l3=[]:=by simpa using h3
  simp only[List.append_eq_nil_iff]at e
  obtain⟨⟨rfl,rfl⟩,rfl⟩:=e
  exact⟨.nilSlice,rfl,hb,fun r hr=>(by cases hr), .inl ⟨rfl,rfl⟩⟩
 ·simp only[List.length_map,Nat.mul_one]at h6 h7
  rw[j0Q]at h7
  have hbad:H.szBad i 1=false:=by simp[Heap.szBad,h5]
  simp only[List.length_append]at h6 h7
  refine⟨.slice i (o+l1.length) l2.length, ?_,hb,fun r hr=>by obtain⟨y,_,rfl⟩:=List.mem_map.1 hr;rfl, .inr ⟨i,o+l1.length,cs,by simp,h3,h4,h5,by simp;omega, ?_⟩⟩
  ·simp only[Heap.sub,hbad,bF,and_false,iF,Option.getD_some,List.length_map,List.length_append]
   rw[if_pos ⟨by omega,by omega,by omega⟩]
   simp
   omega
  ·rw[j0Q,List.length_map,Nat.mul_one]
   have e:(cs.drop (o+l1.length)).take l2.length=(((cs.drop o).take (l1.length+l2.length+l3.length)).drop l1.length).take l2.length:=by
    rw[List.drop_take,List.take_take,List.drop_drop,Nat.min_eq_left (by omega)]
   rw[e,h7,List.map_append,List.map_append,List.append_assoc,List.drop_append_of_le_length (by simp),dL (by simp),List.nil_append,List.take_append_of_le_length (by simp),List.take_of_length_le (by simp)]
theorem Q0y{H:Heap}{b:Nat}{c:C}{l1 l2:List Int}(lim:Nat)(h:OInts H b c (l1++l2)): ∃c',Heap.sub lim H 1 c (l1.length:Int) none=some c'/\OInts H b c' l2:=by
 obtain⟨c',h1,h2⟩:=w0L (l3:=[]) lim (by rw[List.append_nil];exact h)
 refine⟨c', ?_,h2⟩
 rw[<-h1]
 have hl:C.len c=some (l1.length+l2.length):=by rw[h.ints.len,List.length_append]
 cases c with
 |slice i o n=>
  have e:n=l1.length+l2.length:=by simpa[C.len]using hl
  subst e
  simp only[Heap.sub,Option.getD_none,Option.getD_some]
 |nilSlice=>
  have e:0=l1.length+l2.length:=by simpa[C.len]using hl
  simp only[Heap.sub,Option.getD_none,Option.getD_some]
  simp[<-e]
 |_=>cases hl
theorem w0M{H:Heap}{b:Nat}{c:C}{l:List Int}(h:OInts H b c l):H.cellsOf 1 c=some (l.map (C.int .i64)):=by
 have:=Sl.cellsOf h.ints
 rw[j0Q]at this
 exact this
theorem w0r{H:Heap}{b:Nat}{c:C}{l:List Int}(h:OInts H b c l): ∀i o n,c= .slice i o n->i<H.next:=fun i o n e=>by
 rcases h.2.2 with⟨e',_⟩ |⟨i',o',cs,e',_,h2,_⟩
 ·rw[e]at e';cases e'
 ·rw[e]at e';cases e';exact h2
theorem j0x{H H':Heap}{b:Nat}{c:C}{l:List Int}(h:OInts H b c l)(g:Grow H H'):OInts H' b c l:=Own.grow h g
theorem Z0b{H:Heap}{lim b:Nat}{c:C}{l r:List Int}(h:OInts H b c l)(hl:lim<=b)(hroom:l.length+r.length<=2 ^ 36): ∃c' H',Heap.app lim H 1 c (r.map (C.int .i64)) r.length=some (c',H')/\OInts H' b c' (l++r)/\H.next<=H'.next/\ ∀i,i<b->H'.get i=H.get i:=by
 obtain⟨c',H',h1,h2,h3,_⟩:=Own.app h hl (rows':=r.map rowI) (fun x hx=>by obtain⟨y,_,rfl⟩:=List.mem_map.1 hx;rfl) (n:=r.length) (by simp) (by simpa using hroom)
 rw[j0Q]at h1
 refine⟨c',H',h1, ?_,h3.next,fun i hi=>h3.keep i (by have:=h.1;omega) fun o n e=> ?_⟩
 ·rw[<-List.map_append]at h2;exact h2
 ·rcases h.2.2 with⟨e',_⟩ |⟨i',o',cs,e',h5,_⟩
  ·rw[e]at e';cases e'
  ·rw[e]at e';cases e';omega
theorem RdI.later{b b':Nat}{H H':Heap}{c:C}{l:List Int}(h:RdI b H c l)(f:FrB b H H')(hb:b<=b'):RdI b' H' c l:=
 ⟨h.1,fun X fX=>h.2 X ⟨nT hb fX.next,fun i hi=>by rw[fX.old i (by omega),f.old i hi]⟩⟩
theorem PredC.later{M:Mach}{b b' n:Nat}{H H':Heap}{c:C}{P:Nat->Bool}(h:PredC M b H c n P)(f:FrB b H H')(hb:b<=b'):PredC M b' H' c n P:=by
 obtain⟨q,h1,h2⟩:=h
 exact⟨q,h1,fun X fX=>h2 X ⟨nT hb fX.next,fun i hi=>by rw[fX.old i (by omega),f.old i hi]⟩⟩
section
variable{M:Mach}{b n:Nat}{H0 H:Heap}{s f:C}{P:Nat->Bool}{l:List Nat}(hs:RdI b H0 s (natI l))(hl:l.length<=1000000)(hn: ∀x∈l,x<n)(hf:PredC M b H0 f n P)(fH:FrB b H0 H)
include hs hl hn hf fH
theorem q1o: ∀(d i:Nat),i+d=l.length-> ∃k:Int,f91_1 M s f (l.length:Int) (i:Int) H=some (.c (.int .i64 k),H)/\((0<=k)↔ ∃x∈l.drop i,P x=true):=by
 obtain⟨q,h1,h2⟩:=hf
 intro d
 induction d with
 |zero=>
  intro i hi
  refine⟨-1, ?_, ?_⟩
  ·rw[Q0Y]
   simp only[show¬((i:Int)<(l.length:Int)) by omega,dF,bF,iF]
  ·rw[dL (by omega)];simp
 |succ d ih=>
  intro i hi
  have hlt:i<l.length:=by omega
  have hg:l[i]? =some l[i]:=q0a hlt
  have hx:=hn _ (lM hlt)
  obtain⟨q1,r1,r2⟩:=hs.2 H fH i _ (w0t hg)
  have hc:=h2 H fH _ hx
  obtain⟨k,k1,k2⟩:=ih (i+1) (by omega)
  have hd:l.drop i=l[i]::l.drop (i+1):=List.drop_eq_getElem_cons hlt
  cases hP:P l[i]with
  |true=>
   refine⟨i, ?_, ?_⟩
   ·rw[Q0Y]
    simp only[show((i:Int)<(l.length:Int)) by omega,dY,iT,r1,r2,oS,asI_int,h1,hc,asC_c,asB_bool,hP]
   ·exact⟨fun _=>⟨l[i],by rw[hd];exact List.mem_cons_self,hP⟩,fun _=>by omega⟩
  |false=>
   refine⟨k, ?_, ?_⟩
   ·rw[Q0Y]
    simp only[show((i:Int)<(l.length:Int)) by omega,dY,iT,r1,r2,oS,asI_int,h1,hc,asC_c,asB_bool,hP,bF,iF,q0b (show i<=1000000000 by omega),k1]
   ·rw[k2,hd]
    constructor
    ·rintro⟨x,x1,x2⟩;exact⟨x,List.mem_cons_of_mem _ x1,x2⟩
    ·rintro⟨x,x1,x2⟩
     rcases mC.1 x1 with e |e
     ·rw[e,hP]at x2;cases x2
     ·exact⟨x,e,x2⟩
theorem Q1u:f61 M s f H=some (.c (.bool (l.any P)),H):=by
 obtain⟨k,k1,k2⟩:=q1o hs hl hn hf fH l.length 0 (by omega)
 have hlen:C.len s=some l.length:=by have:=hs.1;rwa [q0p]at this
 have e:f91 M s f H=some (.c (.int .i64 k),H):=by
  rw[Z1r]
  simp only[hlen,oS]
  exact k1
 rw[Z1n]
 simp only[e,oS,asC_c,asI_int]
 rw[List.drop_zero]at k2
 have e3:decide (0<=k)=l.any P:=by rw[Bool.eq_iff_iff,dE,k2,List.any_eq_true]
 rw[e3]
end
theorem rdS{H:Heap}{F:Nat->Prop}{b:Bool}{ls:List (List Bool)}{c:C}(h:UC H F (.sl b (ls.map setU)) [c]){k:Nat}{x:List Bool}(hk:ls[k]? =some x): ∃i o c2,C.elem 1 c (k:Int)=some (i,o)/\F i/\H.ld i o=some c2/\UC H F (setU x) [c2]:=by
 obtain⟨i,o,z,cs,e1,e2,e3,e4,e5⟩:=h.elem (k:=k) (u:=setU x) (by simp[hk])
 have hsz:(setU x).size=1:=rfl
 rw[hsz]at e1 e4 e5
 have hlen:((cs.drop o).take 1).length=1:=by rw[List.length_take,List.length_drop];omega
 match hc:(cs.drop o).take 1,hlen with
 | [c2],_=>
  rw[hc]at e5
  exact⟨i,o,c2,e1,e2,ldX e3 (z0w hc),e5⟩
theorem rdB{H:Heap}{F:Nat->Prop}{l:List Bool}{c:C}(h:UC H F (setU l) [c]){k:Nat}{b:Bool}(hk:l[k]? =some b): ∃i o,C.elem 1 c (k:Int)=some (i,o)/\F i/\H.ld i o=some (.bool b):=by
 obtain⟨i,o,z,cs,e1,e2,e3,e4,e5⟩:=h.elem (k:=k) (u:= .c (.bool b)) (j0e hk)
 exact⟨i,o,e1,e2,ldX e3 (z0w e5.2)⟩
theorem lenS{H:Heap}{F:Nat->Prop}{b:Bool}{ls:List (List Bool)}{c:C}(h:UC H F (.sl b (ls.map setU)) [c]):C.len c=some ls.length:=by have:=UC.lenC h;simpa using this
section
variable{M:Mach}{b n:Nat}{H0:Heap}{F:Nat->Prop}
theorem Q1v{l:List Bool}{c2:C}{j:Nat}(hF: ∀i,F i->i<b)(hl:l.length=n)(hu:UC H0 F (setU l) [c2])(hj:j<b)(hg:H0.get j=some (.cells 1 [c2])):PredC M b H0 (.func 102 [] [.ptr j 0]) n (fun v=>l.getD v false):=by
 refine⟨_,rfl,fun H f v hv=> ?_⟩
 have hvl:v<l.length:=by omega
 obtain⟨i,o,r1,r2,r3⟩:=rdB (j0Y hu f hF) (q0a hvl)
 have e:H.get j=some (.cells 1 [c2]):=by rw[f.old j hj];exact hg
 have:f102 M (v:Int) (.ptr j 0) H=some (.c (.bool l[v]),H):=by
  rw[w1Z]
  simp only[asP_ptr,oS,q0c e,List.getElem?_cons_zero,r1,r3,asB_bool]
 have e2:l.getD v false=l[v]:=by rw[lG,q0a hvl];rfl
 show mcall M 102 _ H=some (.c (.bool (l.getD v false)),H)
 rw[e2]
 exact this
theorem Q1w{l:List Bool}{c2:C}{j:Nat}(hF: ∀i,F i->i<b)(hl:l.length=n)(hu:UC H0 F (setU l) [c2])(hj:j<b)(hg:H0.get j=some (.cells 1 [c2])):PredC M b H0 (.func 103 [] [.ptr j 0]) n (fun v=>l.getD v false):=by
 refine⟨_,rfl,fun H f v hv=> ?_⟩
 have hvl:v<l.length:=by omega
 obtain⟨i,o,r1,r2,r3⟩:=rdB (j0Y hu f hF) (q0a hvl)
 have e:H.get j=some (.cells 1 [c2]):=by rw[f.old j hj];exact hg
 have:f103 M (v:Int) (.ptr j 0) H=some (.c (.bool l[v]),H):=by
  rw[Q1a]
  simp only[asP_ptr,oS,q0c e,List.getElem?_cons_zero,r1,r3,asB_bool]
 have e2:l.getD v false=l[v]:=by rw[lG,q0a hvl];rfl
 show mcall M 103 _ H=some (.c (.bool (l.getD v false)),H)
 rw[e2]
 exact this
theorem Q1x{j g:Nat}(hj:j<b)(hg:H0.get j=some (.cells 1 [.int .i64 (g:Int)])):PredC M b H0 (.func 104 [] [.ptr j 0]) n (fun v=>decide (v=g)):=by
 refine⟨_,rfl,fun H f v hv=> ?_⟩
 have e:H.get j=some (.cells 1 [.int .i64 (g:Int)]):=by rw[f.old j hj];exact hg
 have:f104 M (v:Int) (.ptr j 0) H=some (.c (.bool (decide (v=g))),H):=by
  rw[Q1b]
  have e2:decide ((v:Int)=(g:Int))=decide (v=g):=by rw[decide_eq_decide];omega
  simp only[asP_ptr,oS,q0c e,List.getElem?_cons_zero,asI_int,e2]
 exact this
theorem Z1H:PredC M b H0 (.func 98 [] []) n (fun _=>true):=⟨_,rfl,fun H f v hv=>by
 have:f98 M (v:Int) H=some (.c (.bool true),H):=Z1u M v H
 exact this⟩
theorem Q1y{j1 j2 j3 g:Nat}{of:Nat->Int}(h1:j1<b)(h2:j2<b)(h3:j3<b)(g1:H0.get j1=some (.cells 1 [.slice j3 0 n]))(g2:H0.get j2=some (.cells 1 [.int .i64 (g:Int)]))(g3:H0.get j3=some (.cells 1 (fc n of)))(hgn:g<n):PredC M b H0 (.func 101 [] [.ptr j1 0, .ptr j2 0]) n (fun v=>decide (of v=of g)):=by
 refine⟨_,rfl,fun H f v hv=> ?_⟩
 have e1:H.get j1=some (.cells 1 [.slice j3 0 n]):=by rw[f.old j1 h1];exact g1
 have e2:H.get j2=some (.cells 1 [.int .i64 (g:Int)]):=by rw[f.old j2 h2];exact g2
 have e3:H.get j3=some (.cells 1 (fc n of)):=by rw[f.old j3 h3];exact g3
 have:f101 M (v:Int) (.ptr j1 0) (.ptr j2 0) H=some (.c (.bool (decide (of v=of g))),H):=by
  rw[w1Y]
  simp only[asP_ptr,oS,q0c e1,q0c e2,q0c e3,List.getElem?_cons_zero,asI_int,q0j hv,q0j hgn,k0B hv,k0B hgn]
 exact this
theorem Q1z{je pe j1 j2 b':Nat}{E:List Bool}{may:C}{mayP:Nat->Bool}{H':Heap}(hE:E.length=n)(hb:BM H0 je pe E)(h0:je<b)(h1:j1<b)(h2:j2<b)(g1:H0.get j1=some (.cells 1 [.slice je pe n]))(g2:H0.get j2=some (.cells 1 [may]))(hm:PredC M b' H' may n mayP)(f':FrB b' H' H0)(hbb:b'<=b):PredC M b H0 (.func 100 [] [.ptr j1 0, .ptr j2 0]) n (fun v=>E.getD v false&&mayP v):=by
 refine⟨_,rfl,fun H f v hv=> ?_⟩
 have e1:H.get j1=some (.cells 1 [.slice je pe n]):=by rw[f.old j1 h1];exact g1
 have e2:H.get j2=some (.cells 1 [may]):=by rw[f.old j2 h2];exact g2
 have hvl:v<E.length:=by omega
 have e3:=(hb.keep (f.old je h0)).ld (q0a hvl)
 have e4:E.getD v false=E[v]:=by rw[lG,q0a hvl];rfl
 obtain⟨q,q1,q2⟩:=hm
 have q3:=q2 H ⟨nT hbb f.next,fun i hi=>by rw[f.old i (by omega),f'.old i hi]⟩ v hv
 have:f100 M (v:Int) (.ptr j1 0) (.ptr j2 0) H=some (.c (.bool (E.getD v false&&mayP v)),H):=by
  rw[w1X,e4]
  simp only[asP_ptr,oS,q0c e1,q0c e2,List.getElem?_cons_zero,K0j hv,e3,asB_bool]
  cases E[v]with
  |false=>simp
  |true=>simp only[iT,q1,q3,oS,asC_c,asB_bool,Bool.true_and]
 exact this
end
theorem w1I{n:Nat}{rows:List (Bool×List Int)}(hT:Table n rows){u v:Nat}(h:Rch (nxL rows) u v):u<n->v<n:=by
 induction h with
 |refl=>exact id
 |step h1 _ ih=>exact fun _=>ih (Q0p hT _ _ h1)
theorem Q0f{l:List Nat}(h:l≠[]): ∃l0 x,l=l0++[x]/\l.getLast?=some x:=by
 rcases List.eq_nil_or_concat l with e |⟨l0,x,e⟩
 ·exact absurd e h
 ·rw[List.concat_eq_append]at e
  exact⟨l0,x,e,by rw[e];simp⟩
section
variable{lim:Nat}{M:YM}(hM:CallsY lim M.ext){Hb:Heap}{F:Nat->Prop}{n ja jo jp b' gN:Nat}{g sets path:C}{bb b3:Bool}{rows:List (Bool×List Int)}{ls:List (List Bool)}{from' pre:List Nat}{mayP Q0:Nat->Bool}{of:Nat->Int}
variable(hl:lim<=Hb.next)(hF: ∀i,F i->i<Hb.next)(hg:UC Hb F (uLs bb rows) [g])(hT:Table n rows)(hn:n<=100000)
variable(g1:Hb.get ja=some (.cells 1 [.slice jo 0 n]))(g2:Hb.get jp=some (.cells 1 [.int .i64 (gN:Int)]))(g3:Hb.get jo=some (.cells 1 (fc n of)))(hj:ja<Hb.next/\jp<Hb.next/\jo<Hb.next)
variable(hsame: ∀x y,x<n->y<n->(of x=of y↔Both (nxL rows) x y))(hgn:gN<n)(hinn: ∃a b,b∈nxL rows a/\Both (nxL rows) gN a/\Both (nxL rows) gN b)
include hM hl hF hg hT hn g1 g2 g3 hj hsame hgn hinn
theorem j1N{k:Nat}{H:Heap}{c ak:C}{lp:List Nat}{Q:Nat->Bool}(f:FrB Hb.next Hb H)(ho:OInts H Hb.next c (natI lp))(hL:LpI (nxL rows) gN n (fun v=>decide (of v=of gN)) ls k lp)(hk:k<=8)(hQ:PredC (MH lim) H.next H ak n Q)(ht: ∃t,Both (nxL rows) gN t/\Q t=true):
  ∃x r c9 H5 c12,lp.getLast?=some x/\Heap.sub lim H 1 c ((lp.length:Int) - 1) none=some c9/\f99 (MH lim) g c9 1 (.func 101 [] [.ptr ja 0, .ptr jp 0]) ak H=some (.tuple [.c c12, .c (.bool true)],H5)/\Grow H H5/\OInts H5 H.next c12 (natI (x::r))/\
   WayR (nxL rows) (fun v=>decide (of v=of gN)) Q (· ∈[x]) n 1 (x::r)/\r≠[]:=by
 obtain⟨lp0,x,e,hx⟩:=Q0f hL.ne
 have ho':=ho
 rw[e,k0r]at ho'
 obtain⟨c9,s1,s2⟩:=Q0y lim ho'
 have hxm:x∈lp:=by rw[e];simp
 have hxn:=hL.lt x hxm
 have hin:PredC (MH lim) H.next H (.func 101 [] [.ptr ja 0, .ptr jp 0]) n (fun v=>decide (of v=of gN)):=(Q1y hj.1 hj.2.1 hj.2.2 g1 g2 g3 hgn).later f f.next
 have el:((natI lp0).length:Int)=(lp.length:Int) - 1:=by rw[q0p,e];simp
 rw[el]at s1
 obtain⟨t,t1,t2⟩:=ht
 have hP: ∀y,Both (nxL rows) gN y->decide (of y=of gN)=true:=fun y hy=>by
  rw[dE]
  exact(hsame y gN (w1I hT hy.1 hgn) hgn).2 hy.symm
 rcases q1I hM (H:=H) (m:=1) (from':=[x]) (nT hl f.next) (fun i hi=>nL (hF i hi) f.next) (j0Y hg f hF) hT (by omega) hin hQ (nR 1) (RdI.of_ints s2.ints (w0r s2)) (by simp) (fun s hs=>by rw[show s=x by simpa using hs];exact hxn)with⟨H5,c12,l,a1,a2,a3,a4⟩ |⟨H5,a1,a2,a3⟩
 ·obtain⟨r,r1,r2,_⟩:=J0o a4
  subst r1
  exact⟨x,r,c9,H5,c12,hx,s1,a1,a2,a3,a4,r2⟩
 ·exact absurd a3 (Z1U hP hinn (hL.both x hxm) t1 t2)
variable(hs:UC Hb F (.sl b3 (ls.map setU)) [sets])(hls: ∀l∈ls,l.length=n)(hm:ls.length<=8)(hmeet: ∀k,k<ls.length-> ∃t,Both (nxL rows) gN t/\inB (ls.getD k []) t)
variable(hpath:OInts Hb b' path (natI (pre++[gN])))(hpre:WayR (nxL rows) (fun _=>true) Q0 (· ∈from') n 0 (pre++[gN]))(hmay:mayP gN=true)
include hs hls hm hmeet hpath hpre hmay
theorem j1O: ∀(d k:Nat) (H:Heap) (lp:List Nat) (c:C),k+d=ls.length->FrB Hb.next Hb H->OInts H Hb.next c (natI lp)->LpI (nxL rows) gN n (fun v=>decide (of v=of gN)) ls k lp->
  ∃H' c1 c2 lp',f73_1 (MH lim) g c path (.ptr jp 0) (.func 101 [] [.ptr ja 0, .ptr jp 0]) sets (ls.length:Int) (k:Int) H=some (.tuple [.c c1, .c c2, .c (.bool true)],H')/\FrB Hb.next Hb H'/\OInts H' b' c1 (natI pre)/\OInts H' Hb.next c2 (natI lp')/\LassoR (nxL rows) n (· ∈from') mayP ls pre lp':=by
 have hP2: ∀y,y<n->decide (of y=of gN)=true->Both (nxL rows) gN y:=fun y hy h=>((hsame y gN hy hgn).1 (by simpa using h)).symm
 have hlb: ∀(k:Nat) (lp:List Nat),k<=8->LpI (nxL rows) gN n (fun v=>decide (of v=of gN)) ls k lp->lp.length<=1000000:=fun k lp hk h=>by
  have h1:=h.len
  have h2:=Nat.mul_le_mul_left n (nT (W0Z ls gN k) hk)
  omega
 intro d
 induction d with
 |zero=>
  intro k H lp c hk f ho hL
  have hkl:k=ls.length:=by omega
  subst hkl
  have hlen:C.len c=some lp.length:=by rw[ho.ints.len,q0p]
  have hlb':=hlb _ lp hm hL
  obtain⟨x,r0,c9,H5,c12,q1,q2,q3,q4,q5,q6,q7⟩:=j1N hM hl hF hg hT hn g1 g2 g3 hj hsame hgn hinn f ho hL hm ((Q1x hj.2.1 g2).later f f.next) ⟨gN,Both.refl _ gN,by simp⟩
  obtain⟨r1,r2,r3,r4,w,r5,r6⟩:=J0o q6
  cases r2
  obtain⟨r,y,er,ey⟩:=Q0f r3
  have eyg:y=gN:=by
   rw[ey]at r5;cases r5;simpa using r6
  subst eyg
  subst er
  have hlen12:C.len c12=some (r.length+2):=by rw[q5.ints.len,q0p];simp
  have ho12:OInts H5 H.next c12 ([(x:Int)]++natI r++[(y:Int)]):=by
   have:=q5
   rw[show natI (x::(r++[y]))=[(x:Int)]++natI r++[(y:Int)] by simp[natI]]at this
   exact this
  obtain⟨c29,s1,s2⟩:=w0L lim ho12
  have e1:(([(x:Int)].length+(natI r).length:Nat):Int)=((r.length+2:Nat):Int) - 1:=by rw[q0p];simp;omega
  rw[e1]at s1
  have ho5:OInts H5 Hb.next c (natI lp):=j0x ho q4
  have hrl:r.length<=1000000:=by simp at r4;omega
  obtain⟨c32,H6,a1,a2,a3,a4⟩:=Z0b (lim:=lim) (r:=natI r) ho5 hl (by rw[q0p,q0p];omega)
  rw[q0p]at a1
  have f5:FrB Hb.next Hb H5:=f.fr q4
  have f6:FrB Hb.next Hb H6:=⟨nT f5.next a3,fun i hi=>by rw[a4 i hi];exact f5.old i hi⟩
  have hb':=hpath.1
  have hpath6:OInts H6 b' path (natI (pre++[y])):=⟨nT hb' f6.next,hpath.2.1,hpath.2.2.imp id fun⟨i,o,cs,p1,p2,p3,p4,p5⟩=>⟨i,o,cs,p1,p2,nL p3 f6.next,by rw[f6.old i p3];exact p4,p5⟩⟩
  have hlenp:C.len path=some (pre.length+1):=by rw[hpath.ints.len,q0p];simp
  obtain⟨c34,t1,t2⟩:=w0L lim (l1:=[]) (l2:=natI pre) (l3:=[(y:Int)]) (by rw[List.nil_append];rw[show natI pre++[(y:Int)]=natI (pre++[y]) by simp[natI]];exact hpath6)
  have hpl:=hpre.len
  simp only[List.length_append,List.length_cons,List.length_nil]at hpl
  have e2:((([]:List Int).length+(natI pre).length:Nat):Int)=((pre.length+1:Nat):Int) - 1:=by rw[q0p];simp
  rw[e2]at t1
  refine⟨H6,c34,c32,lp++r, ?_,f6,t2,by rw[k0r];exact a2,hL.close hP2 q1 q6 hmay hpre⟩
  have w1:IntKind.wrap .i64 ((lp.length:Int) - 1)=(lp.length:Int) - 1:=q0e (by omega) (by omega)
  have w2:IntKind.wrap .i64 (((r.length+2:Nat):Int) - 1)=((r.length+2:Nat):Int) - 1:=q0e (by omega) (by omega)
  have w3:IntKind.wrap .i64 (((pre.length+1:Nat):Int) - 1)=((pre.length+1:Nat):Int) - 1:=q0e (by omega) (by omega)
  have hlen29:C.len c29=some r.length:=by rw[s2.ints.len,q0p]
  have s1':Heap.sub lim H5 1 c12 1 (some (((r.length+2:Nat):Int) - 1))=some c29:=s1
  have t1':Heap.sub lim H6 1 path 0 (some (((pre.length+1:Nat):Int) - 1))=some c34:=t1
  rw[Q0X]
  simp only[Int.lt_irrefl,dF,bF,iF,hlen,oS,w1,q2,q3,ext_tuple,List.getElem?_cons_zero,List.getElem?_cons_succ,asC_c,asB_bool,hlen12,w2,s1',w0M s2,hlen29,a1,hlenp,w3,t1']
 |succ d ih=>
  intro k H lp c hk f ho hL
  have hlt:k<ls.length:=by omega
  have hgk:ls[k]? =some ls[k]:=q0a hlt
  have hgd:ls.getD k []=ls[k]:=by rw[lG,hgk];rfl
  have hlen:C.len c=some lp.length:=by rw[ho.ints.len,q0p]
  have hlb':=hlb _ lp (by omega) hL
  obtain⟨i1,o1,c2,r1,r2,r3,r4⟩:=rdS (j0Y hs f hF) hgk
  have eI:IntKind.wrap .i64 ((k:Int)+1)=((k+1:Nat):Int):=q0b (by omega)
  have st1:=q0E (lim:=(MH lim).lim) (x:=c2) (alloc_new H (.cells 1 [C.nilSlice])) (show lim<=H.next by have:=f.next;omega) (o:=0) (by simp)
  generalize hH4:(H.alloc (.cells 1 [C.nilSlice])).put H.next _=H4 at st1
  have k4:H4.get H.next=some (.cells 1 [c2]):=by rw[<-hH4,put_same];rfl
  have n4:H4.next=H.next+1:=by rw[<-hH4];rfl
  have g4:Grow H H4:=⟨by omega,fun i hi=>by rw[<-hH4,q0d (by omega),q0g hi]⟩
  have f4:=f.fr g4
  have ho4:OInts H4 Hb.next c (natI lp):=j0x ho g4
  have hF4: ∀i,F i->i<H4.next:=fun i hi=>by have:=hF i hi;have:=f4.next;omega
  have hll:ls[k].length=n:=hls _ (lM hlt)
  have r4':UC H4 F (setU ls[k]) [c2]:=r4.mono ⟨fun _ h=>h,fun i hi=>g4.keep i (by have:=hF i hi;have:=f.next;omega)⟩
  have q61:=Q1u (M:=MH lim) (RdI.of_ints ho4.ints (w0r ho4)) hlb' hL.lt (Q1v (M:=MH lim) (n:=n) hF4 hll r4' (by omega:H.next<H4.next) k4) ⟨nR _,fun _ _=>rfl⟩
  by_cases hany:lp.any (fun v=>ls[k].getD v false)=true
  ·obtain⟨H',z⟩:=ih (k+1) H4 lp c (by omega) f4 ho4 (hL.skip (by
    obtain⟨t,t1,t2⟩:=List.any_eq_true.1 hany
    exact⟨t,t1,by rw[hgd];exact inB_getD.1 t2⟩))
   refine⟨H', ?_⟩
   rw[Q0X]
   simp only[show((k:Int)<(ls.length:Int)) by omega,dY,iT,r1,r3,oS,st1,q61,hany,asC_c,asB_bool,eI]
   exact z
  ·obtain⟨t,t1,t2⟩:=hmeet k hlt
   rw[hgd]at t2
   obtain⟨x,r,c9,H5,c12,q1,q2,q3,q4,q5,q6,q7⟩:=j1N hM hl hF hg hT hn g1 g2 g3 hj hsame hgn hinn f4 ho4 hL (by omega) (Q1w (M:=MH lim) (n:=n) hF4 hll r4' (by omega:H.next<H4.next) k4) ⟨t,t1,inB_getD.2 t2⟩
   have hL':=hL.more hP2 (fun⟨t,t1,t2⟩=>hany (List.any_eq_true.2 ⟨t,t1,by rw[hgd]at t2;exact inB_getD.2 t2⟩)) q1 q6 (fun w hw=>by rw[hgd];exact inB_getD.1 hw)
   have hlb2:=hlb _ _ (by omega) hL'
   rw[List.length_append]at hlb2
   have ho12:OInts H5 H4.next c12 ([(x:Int)]++natI r):=q5
   obtain⟨c16,s1,s2⟩:=Q0y lim ho12
   have s1':Heap.sub lim H5 1 c12 1 none=some c16:=s1
   have ho5:OInts H5 Hb.next c (natI lp):=j0x ho4 q4
   obtain⟨c19,H6,a1,a2,a3,a4⟩:=Z0b (lim:=lim) (r:=natI r) ho5 hl (by rw[q0p,q0p];omega)
   rw[q0p]at a1
   rw[<-k0r]at a2
   have f5:FrB Hb.next Hb H5:=f4.fr q4
   have f6:FrB Hb.next Hb H6:=⟨nT f5.next a3,fun i hi=>by rw[a4 i hi];exact f5.old i hi⟩
   obtain⟨H',z⟩:=ih (k+1) H6 (lp++r) c19 (by omega) f6 a2 hL'
   refine⟨H', ?_⟩
   have w1:IntKind.wrap .i64 ((lp.length:Int) - 1)=(lp.length:Int) - 1:=q0e (by omega) (by omega)
   have hlen16:C.len c16=some r.length:=by rw[s2.ints.len,q0p]
   rw[Bool.not_eq_true]at hany
   rw[Q0X]
   simp only[show((k:Int)<(ls.length:Int)) by omega,dY,iT,r1,r3,oS,st1,q61,hany,asC_c,asB_bool,bF,iF,hlen,w1,q2,q3,ext_tuple,List.getElem?_cons_zero,List.getElem?_cons_succ,s1',w0M s2,hlen16,a1,eI]
   exact z
end
def NoLasso(nx:Nat->List Nat)(src:Nat->Prop)(may:Nat->Bool)(ls:List (List Bool)):Prop:=
 ∀s v,src s->Rch nx s v->GoodN nx ls.length (fun k=>inB (ls.getD k [])) v->may v=false
section
variable{lim:Nat}{M:YM}(hM:CallsY lim M.ext){H:Heap}{F:Nat->Prop}{n:Nat}{g sets first may:C}{bb b3:Bool}{rows:List (Bool×List Int)}{ls:List (List Bool)}{from':List Nat}{mayP:Nat->Bool}
variable(hl:lim<=H.next)(hF: ∀i,F i->i<H.next)(hg:UC H F (uLs bb rows) [g])(hT:Table n rows)(hn:n<=100000)(hs:UC H F (.sl b3 (ls.map setU)) [sets])(hls: ∀l∈ls,l.length=n)(hm:ls.length<=8)
variable(hv:RdI H.next H first (natI from'))(hfl:from'.length<=1000000)(hfn: ∀s∈from',s<n)(hmay:PredC (MH lim) H.next H may n mayP)
include hM hl hF hg hT hn hs hls hm hv hfl hfn hmay
theorem J1j:(∃H' c1 c2 pre lp,f73 (MH lim) g first sets may H=some (.tuple [.c c1, .c c2, .c (.bool true)],H')/\Grow H H'/\OInts H' H.next c1 (natI pre)/\OInts H' H.next c2 (natI lp)/\LassoR (nxL rows) n (· ∈from') mayP ls pre lp)\/
  (∃H',f73 (MH lim) g first sets may H=some (.tuple [.c .nilSlice, .c .nilSlice, .c (.bool false)],H')/\Grow H H'/\NoLasso (nxL rows) (· ∈from') mayP ls):=by
 obtain⟨σ,s1,s2⟩:=X0M (M:=M) hT (by omega)
 have hsame: ∀x y,x<n->y<n->(σ.of x=σ.of y↔Both (nxL rows) x y):=by
  obtain⟨σ',h1,_,h3⟩:=W0T (Q0p hT) (nR n)
  rw[s1]at h1;cases h1
  exact h3
 obtain⟨E,e1,e2,e3⟩:=s2 bb true b3 ls hls (by omega)
 have g1:(H.alloc (.cells 1 [may])).get H.next=some (.cells 1 [may]):=alloc_new _ _
 have gr1:Grow H (H.alloc (.cells 1 [may])):= .alloc H _
 generalize hH1:H.alloc (.cells 1 [may])=H1 at g1 gr1
 have n1:H1.next=H.next+1:=by rw[<-hH1];rfl
 have u1:UC H1 F (uLs bb rows) [g]:=hg.mono ⟨fun _ h=>h,fun i hi=>gr1.keep i (hF i hi)⟩
 obtain⟨jo,H2,q1,q2,q3,q4,q5⟩:=Z1Q hM u1 (by omega) (fun i hi=>by have:=hF i hi;omega) hT (by omega) s1
 have n2:=q2.next
 have st5:=q0E (lim:=(MH lim).lim) (x:= .slice jo 0 n) (alloc_new H2 (.cells 1 [C.nilSlice])) (show lim<=H2.next by omega) (o:=0) (by simp)
 generalize hH5:(H2.alloc (.cells 1 [C.nilSlice])).put H2.next _=H5 at st5
 have k5:H5.get H2.next=some (.cells 1 [.slice jo 0 n]):=by rw[<-hH5,put_same];rfl
 have n5:H5.next=H2.next+1:=by rw[<-hH5];rfl
 have g5:Grow H2 H5:=⟨by omega,fun i hi=>by rw[<-hH5,q0d (by omega),q0g hi]⟩
 have l5:Heap.ld H5 H2.next 0=some (.slice jo 0 n):=by rw[q0c k5];rfl
 have gr5:Grow H H5:=gr1.trans (q2.trans g5)
 let F5:Nat->Prop:=fun i=>F i\/i=jo
 have hF5: ∀i,F5 i->i<H5.next:=fun i hi=>hi.elim (fun h=>by have:=hF i h;omega) fun h=>by omega
 have m5:FLe H F H5 F5:=⟨fun i h=> .inl h,fun i hi=>gr5.keep i (hF i hi)⟩
 have uo:UC H5 F5 (uIs true (numsL n σ.of)) [.slice jo 0 n]:=w1S (.inr rfl) (by rw[g5.keep jo (by omega)];exact q5)
 obtain⟨je,pe,H7,F7,r1,r2,r3,r4,r5,r6⟩:=K1H hM (f:=92) rfl (us:=[uLs bb rows,uIs true (numsL n σ.of), .sl b3 (ls.map setU)]) (vs:=[.c g, .c (.slice jo 0 n), .c sets]) e1 (by omega) hF5 ⟨_,_,rfl,⟨rfl,hg.mono m5⟩,_,_,rfl,⟨rfl,uo⟩,_,_,rfl,⟨rfl,hs.mono m5⟩,rfl⟩
 rw[e2]at r1
 have q92:f92 (MH lim) g (.slice jo 0 n) sets H5=some (.c (.slice je pe n),H7):=r1
 have n7:=r2.next
 have g7:Grow H5 H7:=z0x r2
 have st10:=q0E (lim:=(MH lim).lim) (x:= .slice je pe n) (alloc_new H7 (.cells 1 [C.nilSlice])) (show lim<=H7.next by omega) (o:=0) (by simp)
 generalize hH10:(H7.alloc (.cells 1 [C.nilSlice])).put H7.next _=H10 at st10
 have k10:H10.get H7.next=some (.cells 1 [.slice je pe n]):=by rw[<-hH10,put_same];rfl
 have n10:H10.next=H7.next+1:=by rw[<-hH10];rfl
 have g10:Grow H7 H10:=⟨by omega,fun i hi=>by rw[<-hH10,q0d (by omega),q0g hi]⟩
 have gr10:Grow H H10:=gr5.trans (g7.trans g10)
 have f10:FrB H.next H H10:=⟨gr10.next,gr10.keep⟩
 have k1:H10.get H.next=some (.cells 1 [may]):=by rw[(q2.trans (g5.trans (g7.trans g10))).keep H.next (by omega)];exact g1
 have p100:=Q1z (M:=MH lim) (b:=H10.next) e2 (r6.keep (g10.keep je r4)) (by omega) (by omega:H7.next<H10.next) (by omega:H.next<H10.next) k10 k1 hmay f10 gr10.next
 have u10:UC H10 F (uLs bb rows) [g]:=j0Y hg f10 hF
 rcases q1I hM (H:=H10) (m:=0) (from':=from') (by omega) (fun i hi=>by have:=hF i hi;omega) u10 hT (by omega) Z1H p100 (Nat.zero_le 1) (hv.later f10 gr10.next) hfl hfn with⟨H11,c13,l,a1,a2,a3,a4⟩ |⟨H11,a1,a2,a3⟩
 ·have a1':f99 (MH lim) g first 0 (.func 98 [] []) (.func 100 [] [.ptr H7.next 0, .ptr H.next 0]) H10=some (.tuple [.c c13, .c (.bool true)],H11):=a1
  obtain⟨pre,gN,el,eg⟩:=Q0f (l:=l) (fun e=>by have:=a4.len;rw[e]at this;simp at this)
  have n11:=a2.next
  subst el
  have hgn:gN<n:=a4.lt gN (by simp)
  have hQ:(E.getD gN false&&mayP gN)=true:=by
   obtain⟨w,w1,w2⟩:=a4.last
   rw[eg]at w1;cases w1;exact w2
  rw[bA,inB_getD]at hQ
  obtain⟨hE,hmy⟩:=hQ
  obtain⟨_,hinn,hmeet⟩:=(e3 gN).1 hE
  have hpl:=a4.len
  simp only[List.length_append,List.length_cons,List.length_nil]at hpl
  have hlen13:C.len c13=some (pre.length+1):=by rw[a3.ints.len,q0p];simp
  obtain⟨q18,r18,l18⟩:=a3.ints.read (j:=pre.length) (v:=(gN:Int)) (w0t (by simp))
  have w18:IntKind.wrap .i64 (((pre.length+1:Nat):Int) - 1)=(pre.length:Int):=by rw[q0e (by omega) (by omega)];omega
  have st22:=q0E (lim:=(MH lim).lim) (x:= .int .i64 (gN:Int)) (alloc_new H11 (.cells 1 [C.int .i64 0])) (show lim<=H11.next by omega) (o:=0) (by simp)
  generalize hH22:(H11.alloc (.cells 1 [C.int .i64 0])).put H11.next _=H22 at st22
  have k22:H22.get H11.next=some (.cells 1 [.int .i64 (gN:Int)]):=by rw[<-hH22,put_same];rfl
  have n22:H22.next=H11.next+1:=by rw[<-hH22];rfl
  have g22:Grow H11 H22:=⟨by omega,fun i hi=>by rw[<-hH22,q0d (by omega),q0g hi]⟩
  have l22:Heap.ld H22 H11.next 0=some (.int .i64 (gN:Int)):=by rw[q0c k22];rfl
  have gr22:Grow H H22:=gr10.trans (a2.trans g22)
  have f22:FrB H.next H H22:=⟨gr22.next,gr22.keep⟩
  have ka:H22.get H2.next=some (.cells 1 [.slice jo 0 n]):=by rw[(g7.trans (g10.trans (a2.trans g22))).keep _ (by omega)];exact k5
  have ko:H22.get jo=some (.cells 1 (fc n σ.of)):=by rw[(g5.trans (g7.trans (g10.trans (a2.trans g22)))).keep _ (by omega)];exact q5
  have olp:OInts (H22.alloc (.cells 1 [.int .i64 (gN:Int)])) H22.next (.slice H22.next 0 1) (natI [gN]):=OInts.lit H22 (nR _) [(gN:Int)] rfl rfl
  obtain⟨H',c1,c2,lp',z1,z2,z3,z4,z5⟩:=j1O hM (Hb:=H22) (F:=F) (by omega) (fun i hi=>by have:=hF i hi;have:=gr22.next;omega) (j0Y hg f22 hF) hT hn ka k22 ko ⟨by omega,by omega,by omega⟩ hsame hgn hinn (j0Y hs f22 hF) hls hm hmeet (j0x a3 g22) a4 hmy ls.length 0 _ [gN] _ (by omega) ⟨by simp,fun i hi=>q0g hi⟩ olp (LpI.start hgn)
  have hks:=lenS (j0Y hs f22 hF)
  refine .inl ⟨H',c1,c2,pre,lp', ?_,gr22.trans ⟨z2.next,z2.old⟩,Own.low z3 (by omega),Own.low z4 (by omega),z5⟩
  rw[w1e]
  simp only[hH1,q1,oS,asC_c,st5,l5,q92,st10,a1',ext_tuple,List.getElem?_cons_zero,List.getElem?_cons_succ,asB_bool,Bool.not_true,bF,iF,hlen13,w18,r18,l18,asI_int,st22,l22,hks]
  exact z1
 ·have a1':f99 (MH lim) g first 0 (.func 98 [] []) (.func 100 [] [.ptr H7.next 0, .ptr H.next 0]) H10=some (.tuple [.c .nilSlice, .c (.bool false)],H11):=a1
  refine .inr ⟨H11, ?_,gr10.trans a2,fun s v hs' hv' hgd=>q1E a3 hs' hv' (inB_getD.2 ((e3 v).2 ⟨w1I hT hv' (hfn s hs'),hgd⟩))⟩
  rw[w1e]
  simp only[hH1,q1,oS,asC_c,st5,l5,q92,st10,a1',ext_tuple,List.getElem?_cons_zero,List.getElem?_cons_succ,asB_bool,Bool.not_false,iT]
end
def stL(pre lp:List Nat)(p:Nat):Nat:=(pre++lp).getD p 0
theorem w0N{pre lp:List Nat}{p:Nat}(h:p<pre.length+lp.length):(pre++lp)[p]? =some (stL pre lp p):=by
 have:p<(pre++lp).length:=by rw[List.length_append];exact h
 unfold stL
 rw[lG,q0a this];rfl
def rhoL(pre lp:List Nat)(w0:List Int)(i:Nat):Nat:=stL pre lp (posN w0 (pre.length+lp.length) i)
section
variable{pre lp:List Nat}{w0 w1:List Int}(h0:w0.length=pre.length)(h1:w1.length=lp.length)(hp:0<lp.length)
include h0 h1 hp
theorem Z1O(i:Nat):posN w0 (pre.length+lp.length) i<pre.length+lp.length:=(j0y (w0:=w0) (w1:=w1) (by omega) (by omega) i).1
theorem q1y{t:Nat}(ht:t∈lp)(N:Nat): ∃i,N<=i/\rhoL pre lp w0 i=t:=by
 obtain⟨j,hj⟩:=List.mem_iff_getElem?.1 ht
 have hjl:=(gE.1 hj).1
 have hNl:N<=N*lp.length:=Nat.le_mul_of_pos_right N hp
 have hi:=j0y (w0:=w0) (w1:=w1) (n:=pre.length+lp.length) (by omega) (by omega) (pre.length+j+N*lp.length)
 rw[if_neg (by omega),h0,h1,show pre.length+j+N*lp.length - pre.length=j+N*lp.length by omega,Nat.add_mul_mod_self_right,Nat.mod_eq_of_lt hjl]at hi
 refine⟨pre.length+j+N*lp.length,by omega, ?_⟩
 unfold rhoL
 have e:posN w0 (pre.length+lp.length) (pre.length+j+N*lp.length)=pre.length+j:=by omega
 rw[e]
 unfold stL
 rw[lG,List.getElem?_append_right (by omega),show pre.length+j - pre.length=j by omega,hj]
 rfl
end
structure LetR (es:List E4) (pre lp:List Nat) (w0 w1:List Int):Prop where
 l0:w0.length=pre.length
 l1:w1.length=lp.length
 nn: ∀i,0<=letr w0 w1 i
 ed: ∀p,p<pre.length+lp.length-> ∃e∈es,e.f=((stL pre lp p:Nat):Int)/\e.t=((stL pre lp (toP w0 (pre.length+lp.length) p):Nat):Int)/\rdI e (letr w0 w1 p)=true
section
variable{nx:Nat->List Nat}{n:Nat}{src:Nat->Prop}{may:Nat->Bool}{ls:List (List Bool)}{pre lp:List Nat}
theorem LassoR.pos(h:LassoR nx n src may ls pre lp):0<lp.length:=by
 obtain⟨g,h1,_⟩:=h.lead
 cases lp with
 |nil=>cases h1
 |cons _ _=>simp
theorem LassoR.start(h:LassoR nx n src may ls pre lp):src (stL pre lp 0):=by
 obtain⟨s,h1,h2⟩:=h.first
 have:=h.pos
 have e:=w0N (pre:=pre) (lp:=lp) (p:=0) (by omega)
 rw[<-List.head?_eq_getElem?,h1]at e
 have e2:=Option.some.inj e
 rw[<-e2];exact h2
theorem LassoR.step(h:LassoR nx n src may ls pre lp){w0:List Int}(h0:w0.length=pre.length){p:Nat}(hp:p<pre.length+lp.length):stL pre lp (toP w0 (pre.length+lp.length) p)∈nx (stL pre lp p):=by
 obtain⟨g,h1,_,h2,_⟩:=h.lead
 have hpos:=h.pos
 have a1:(pre++lp++[g])[p]? =some (stL pre lp p):=by rw[List.getElem?_append_left (by rw[List.length_append];exact hp)];exact w0N hp
 refine(h2.at (i:=p) a1 ?_).1
 unfold toP
 by_cases e:p+1=pre.length+lp.length
 ·rw[if_pos e,h0]
  rw[List.getElem?_append_right (by rw[List.length_append];omega)]
  have e3:=w0N (pre:=pre) (lp:=lp) (p:=pre.length) (by omega)
  rw[List.getElem?_append_right (nR _),Nat.sub_self,<-List.head?_eq_getElem?,h1]at e3
  rw[List.length_append,show p+1 - (pre.length+lp.length)=0 by omega]
  exact e3
 ·rw[if_neg e,List.getElem?_append_left (by rw[List.length_append];omega)]
  exact w0N (by omega)
theorem LassoR.stlt(h:LassoR nx n src may ls pre lp){p:Nat}(hp:p<pre.length+lp.length):stL pre lp p<n:=h.lt _ (List.mem_of_getElem? (w0N hp))
end
section
variable{a:Nat}{l:List Int}{es:List E4}{xs:List (Bool×List Int)}(hT:Table a (rowsU a es))(ok:es.all (eOK (a:Int))=true)
include hT
omit hT in
end
section
variable{M:Mach}{b:Nat}{H0:Heap}{F:Nat->Prop}{s f:C}{b2:Bool}{es:List E4}{P:E4->Bool}
end
section
variable{lim:Nat}{M:YM}(hM:CallsY lim M.ext)
include hM
section
variable{Hs:Heap}{F:Nat->Prop}{b2:Bool}{es:List E4}{pre lp:List Nat}{a_0:Int}{a_1 a_3 x0 x1 c2 vp vl cs:C}
variable(hl:lim<=Hs.next)(hF: ∀i,F i->i<Hs.next)(hu:UC Hs F (uEs b2 es) [c2])(he:es.length<=1000000)(hcs:RdI Hs.next Hs cs (natI (pre++lp)))(hvl:RdI Hs.next Hs vl (natI lp))(hn:pre.length+lp.length<=1000000)(hp:0<lp.length)
variable(hst: ∀j,j<pre.length+lp.length-> ∃e∈es,e.f=((stL pre lp j:Nat):Int)/\e.t=((stL pre lp (if j+1=pre.length+lp.length then pre.length else j+1):Nat):Int)/\cr e=true)
include hl hF hu he hcs hvl hn hp hst
end
end
theorem k1y{M:YM}{a b:Nat}(ha:a<=1000000)(hb:b<=1000000)(h:a*b<=1000000):y110 M (a:Int) (b:Int)=some (.tup [.c (.int .u64 0), .c (.int .u64 ((a*b:Nat):Int))]):=by
 have s0:shI .shr .u64 0 32=0:=rfl
 have a0:bitI .and .u64 0 4294967295=0:=rfl
 have w0:IntKind.wrap .u64 0=0:=rfl
 have wn:IntKind.wrap .u64 ((a*b:Nat):Int)=((a*b:Nat):Int):=W0X (by omega) (by omega)
 rw[Y0L,Y0M]
 simp only[k1l (show a<4294967296 by omega),Q1J (show a<4294967296 by omega),k1l (show b<4294967296 by omega),Q1J (show b<4294967296 by omega),Int.zero_mul,Int.mul_zero,w0,<-Int.natCast_mul,wn,k1l (show a*b<4294967296 by omega),Int.add_zero,Int.zero_add,s0,a0]
 rfl
def rep{α:Type}(k:Nat)(w:List α):List α:=(List.replicate k w).flatten
theorem k0X{α:Type}(k:Nat)(w:List α):(rep k w).length=w.length*k:=by
 induction k with
 |zero=>rfl
 |succ k ih=>simp only[rep,List.replicate_succ,List.flatten_cons,List.length_append]at ih⊢;rw[ih,Nat.mul_succ];omega
theorem j1g{α:Type}(q r:Nat)(w:List α):rep q w++rep r w=rep (q+r) w:=by
 unfold rep
 rw[<-List.flatten_append,List.replicate_append_replicate]
theorem K1Q{α:Type}(w:List α):rep 1 w=w:=by simp[rep]
theorem k1z{α:Type}{q r:Nat}(w:List α)(h:r<=q):(rep q w).take (w.length*r)=rep r w:=by
 obtain⟨d,rfl⟩: ∃d,q=r+d:=⟨q - r,by omega⟩
 rw[<-j1g,List.take_append_of_le_length (by rw[k0X];exact nR _),List.take_of_length_le (by rw[k0X];exact nR _)]
theorem Z1X{M:Mach}{i L k:Nat}{w:List C}(hi:M.lim<=i)(hw:w.length=L)(hL:1<=L)(hN:L*k<=1000000): ∀(F q:Nat) (cs:List C) (H:Heap),k<=q+F->1<=q->q<=k->H.get i=some (.cells 1 cs)->cs.length=L*k->cs.take (L*q)=rep q w->
  ∃H',f95_3 M (.slice i 0 (L*k)) ((L*q:Nat):Int) H=some (.c (.slice i 0 (L*k)),H')/\H'.next=H.next/\(∀j,j≠i->H'.get j=H.get j)/\H'.get i=some (.cells 1 (rep k w)):=by
 have fin: ∀(cs:List C) (H:Heap),H.get i=some (.cells 1 cs)->cs.length=L*k->cs.take (L*k)=rep k w-> ∃H',f95_3 M (.slice i 0 (L*k)) ((L*k:Nat):Int) H=some (.c (.slice i 0 (L*k)),H')/\H'.next=H.next/\(∀j,j≠i->H'.get j=H.get j)/\H'.get i=some (.cells 1 (rep k w)):=fun cs H hg hl ht=>by
  refine⟨H, ?_,rfl,fun _ _=>rfl, ?_⟩
  ·rw[z0F];simp
  ·rw[hg,<-ht,List.take_of_length_le (by omega)]
 intro F
 induction F with
 |zero=>
  intro q cs H hF h1 h2 hg hl ht
  obtain rfl:q=k:=by omega
  exact fin cs H hg hl ht
 |succ F ih=>
  intro q cs H hF h1 h2 hg hl ht
  by_cases hn:q=k
  ·subst hn;exact fin cs H hg hl ht
  ·obtain⟨n,en⟩: ∃n,n=L*q:=⟨_,rfl⟩
   obtain⟨N,eN⟩: ∃N,N=L*k:=⟨_,rfl⟩
   obtain⟨r,er⟩: ∃r,r=Nat.min q (k - q):=⟨_,rfl⟩
   have hr1:r<=q:=by rw[er];exact Nat.min_le_left _ _
   have hr2:r<=k - q:=by rw[er];exact Nat.min_le_right _ _
   have hr3:1<=r:=by rw[er];exact Nat.le_min.2 ⟨h1,by omega⟩
   obtain⟨m,em⟩: ∃m,m=L*r:=⟨_,rfl⟩
   have hqk:L*q+L<=L*k:=by
    have:=Nat.mul_le_mul_left L (show q+1<=k by omega)
    rw[Nat.mul_succ]at this;exact this
   have hlt:n<N:=by omega
   have hsub:N - n=L*(k - q):=by rw[eN,en,Nat.mul_sub]
   have hmm:Nat.min n (N - n)=m:=by
    rw[hsub,en,em,er]
    show min (L*q) (L*(k - q))=L*min q (k - q)
    rw[Nat.mul_min_mul_left]
   have hm1:m<=n:=by rw[<-hmm];exact Nat.min_le_left _ _
   have hm2:m<=N - n:=by rw[<-hmm];exact Nat.min_le_right _ _
   rw[<-en]at ht⊢
   rw[<-eN]at hl⊢
   have hrl:(rep q w).length=n:=by rw[k0X,hw,en]
   have hrm:(rep r w).length=m:=by rw[k0X,hw,em]
   have hbad:H.szBad i 1=false:=by simp[Heap.szBad,hg]
   have s1:Heap.sub M.lim H 1 (.slice i 0 N) (n:Int) none=some (.slice i n (N - n)):=by
    simp only[Heap.sub,hbad,bF,and_false,iF,Option.getD_none]
    rw[if_pos (by omega)]
    simp
   have s2:Heap.sub M.lim H 1 (.slice i 0 N) 0 (some (n:Int))=some (.slice i 0 n):=by
    simp only[Heap.sub,hbad,bF,and_false,iF,Option.getD_some]
    rw[if_pos (by omega)]
    simp
   have s3:Heap.cellsOf H 1 (.slice i 0 n)=some (rep q w):=by
    simp only[Heap.cellsOf,Heap.ldN,hg]
    rw[if_pos (by omega)]
    simp[ht]
   have htk:(rep q w).take (Nat.min n (N - n)*1)=rep r w:=by rw[Nat.mul_one,hmm,em,<-hw];exact k1z w hr1
   have s4:Heap.copy M.lim H 1 (.slice i n (N - n)) (rep q w) n=some (m,H.put i (.cells 1 (splice cs n (rep r w)))):=by
    simp only[Heap.copy,htk,Heap.st,hg]
    rw[if_pos ⟨hi,by omega⟩]
    simp only[Option.map_some,hmm]
   have hsp:splice cs n (rep r w)=rep q w++rep r w++cs.drop (n+m):=by
    have e:cs=rep q w++(cs.drop n).take m++cs.drop (n+m):=by
     rw[<-ht,<-List.drop_drop,List.append_assoc,List.take_append_drop,List.take_append_drop]
    have:=k0S (rep r w) ((cs.drop n).take m) (rep q w) (cs.drop (n+m)) (by rw[hrm,List.length_take,List.length_drop];omega)
    rw[hrl,<-e]at this
    exact this
   have hqr:L*(q+r)=n+m:=by rw[Nat.mul_add,en,em]
   obtain⟨H',b1,b2,b3,b4⟩:=ih (q+r) (splice cs n (rep r w)) (H.put i (.cells 1 (splice cs n (rep r w)))) (by omega) (by omega) (by omega) (put_same _ _ _) (by rw[q0G,<-eN];exact hl) (by
    rw[hsp,j1g,List.take_append_of_le_length (by rw[k0X,hw];exact nR _),List.take_of_length_le (by rw[k0X,hw];exact nR _)])
   rw[hqr,<-eN]at b1
   have hw':IntKind.wrap .i64 ((n:Int)+((m:Nat):Int))=((n+m:Nat):Int):=by rw[q0e (by omega) (by omega)];simp
   refine⟨H', ?_,b2,fun j hj=>by rw[b3 j hj,q0d hj],b4⟩
   rw[z0F]
   simp only[len_slice,oS,show((n:Int)<(N:Int)) by omega,dY,iT,s1,s2,s3,s4,hw']
   exact b1
section
variable{lim:Nat}{M:YM}(hM:CallsY lim M.ext)
include hM
theorem K1n{a b:Nat}(ha:a<=1000000)(hb:b<=1000000)(h:a*b<=1000000){H:Heap}(hl:lim<=H.next): ∃H',f110 (MH lim) (a:Int) (b:Int) H=some (.tuple [.c (.int .u64 0), .c (.int .u64 ((a*b:Nat):Int))],H')/\Grow H H':=by
 have hr:ycall M 110 [.c (.int .u64 (a:Int)), .c (.int .u64 (b:Int))]=some (.tup [.c (.int .u64 0), .c (.int .u64 ((a*b:Nat):Int))]):=k1y (M:=M) ha hb h
 obtain⟨v,H',F',k1,k2,k3,_,_,_,k4⟩:=(j0X (vext:=awExt 8) (yext:=M.ext) (prog:=progOf 8 prog true) (lim:=lim) k0p hM) 110 _ _ hr H (fun _=>False) [.c (.int .u64 (a:Int)), .c (.int .u64 (b:Int))] hl (fun _ h=>h.elim) (w1q ⟨rfl,rfl,rfl⟩ ⟨rfl,rfl,rfl⟩)
 refine⟨H', ?_,⟨k2,k3⟩⟩
 obtain⟨vs,rfl,v1,vs1,rfl,⟨_,u1⟩,v2,vs2,rfl,⟨_,u2⟩,e⟩:=k4
 cases e
 rw[u1.c_eq,u2.c_eq]at k1
 exact k1
end
structure ShortR (w0 w1 v0 v1:List Int):Prop where
 same: ∀i,letr v0 v1 i=letr w0 w1 i
 l0:v0.length<=w0.length
 l1:v1.length<=w1.length
 pos:0<v1.length
theorem ShortR.refl{w0 w1:List Int}(h:0<w1.length):ShortR w0 w1 w0 w1:=⟨fun _=>rfl,nR _,nR _,h⟩
theorem ShortR.trans{w0 w1 v0 v1 u0 u1:List Int}(h:ShortR w0 w1 v0 v1)(k:ShortR v0 v1 u0 u1):ShortR w0 w1 u0 u1:=⟨fun i=>(k.same i).trans (h.same i),nT k.l0 h.l0,nT k.l1 h.l1,k.pos⟩
theorem q1d{l:List Int}{i:Nat}{x:Int}(h:l[i]? =some x):at0 l i=x:=by
 unfold at0;rw[lG,h];rfl
theorem ShortR.letters{w0 w1 v0 v1:List Int}(h:ShortR w0 w1 v0 v1)(hw:0<w1.length)(hl:(w0++w1).all ltr=true):(v0++v1).all ltr=true:=by
 rw[List.all_eq_true]
 intro x hx
 obtain⟨i,hi⟩:=List.mem_iff_getElem?.1 hx
 have hil:=(gE.1 hi).1
 rw[List.length_append]at hil
 have:=J0l (k:=i) hw hl
 rw[<-h.same i,j0Z hil,q1d hi]at this
 exact this
section
variable{M:YM}
structure SxR (s:Sx) (l:List Int):Prop where
 es:s.es=l.map uI
 sz:s.b=true->s.sz=1
 nil:s.b=false->l=[]
theorem SxR.fz{s:Sx}{l:List Int}(h:SxR s l):Sx.fz s=uIs s.b l:=by unfold Sx.fz uIs;rw[h.es]
theorem SxR.len{s:Sx}{l:List Int}(h:SxR s l):s.es.length=l.length:=by rw[h.es,List.length_map]
end
theorem Z0c{H:Heap}{F:Nat->Prop}: ∀(l:List Int) (cs:List C),EsR H F (l.map uI) 1 cs->cs=l.map (C.int .i64)
 | [],cs,h=>h
 |b::l,cs,h=>by
  obtain⟨a,r,rfl,h1,h2,h3⟩:=h
  obtain⟨_,rfl⟩:=h2
  rw[Z0c l r h3];rfl
theorem w1m{H:Heap}{b:Nat}{c:C}{l:List Int}{F:Nat->Prop}(h:OInts H b c l)(hF: ∀i,b<=i->i<H.next->F i): ∃bb:Bool,UC H F (uIs bb l) [c]/\(bb=false->l=[]):=by
 obtain⟨h1,h2,⟨rfl,h3⟩ |⟨i,o,cs,rfl,h3,h4,h5,h6,h7⟩⟩:=h
 ·have:l=[]:=by simpa using h3
  exact⟨false, .inl ⟨rfl,by rw[this];rfl,rfl⟩,fun _=>this⟩
 ·simp only[List.length_map]at h6 h7
  refine⟨true, .inr ⟨rfl,i,o,cs,1,by simp,hF i h3 h4,h5,by simpa using h6, ?_⟩,fun h=>(by cases h)⟩
  rw[List.length_map,h7]
  exact w0q l
def RepP(us:List U)(r:Rz):Prop:= ∃(b:Bool) (w:List Int) (k:Nat),us=[uIs b w,uI (k:Int)]/\1<=w.length/\1<=k/\w.length*k<=1000000/\r= .val (uIs true (rep k w))
theorem callT{lim:Nat}{M:YM}(hM:CallsY lim M.ext){f:FuncId}{us us':List U}(h:ycall M f us=some (.tup us')){m1 m2:RM}(hm:md f=[m1,m2]){H:Heap}{F:Nat->Prop}{vs:List V}(hl:lim<=H.next)(hF: ∀i,F i->i<H.next)(hv:UVs H F us vs):
  ∃ws H' F',mcall (MH lim) f vs H=some (.tuple ws,H')/\FrX none H F H' F'/\UVs H' F' us' ws:=
 Rz.callT (md:=md) (j0X (vext:=awExt 8) (yext:=M.ext) (prog:=progOf 8 prog true) (lim:=lim) k0p hM) h hm hl hF hv
theorem X0R{l:List Int}(h: ∀x∈l,0<=x):natI (l.map Int.toNat)=l:=by
 unfold natI
 rw[List.map_map]
 refine(List.map_congr_left fun x hx=> ?_).trans (List.map_id l)
 have:=h x hx
 show((x.toNat:Nat):Int)=x
 omega
section
variable{a:Nat}{l:List Int}{es:List E4}{xs:List (Bool×List Int)}{pre lp:List Nat}{w:List Int}
end
section
variable{lim:Nat}{H:Heap}{F:Nat->Prop}{a:Nat}{b1 b2 b3:Bool}{l:List Int}{es:List E4}{xs:List (Bool×List Int)}{c1 c2 c3:C}
variable(A:AU lim H F H.next a l es xs b1 b2 b3 c1 c2 c3)
include A
end
theorem Q1g{M:YM}{b b':Bool}:y31 M (uIs b []) (uIs b' [])=some (.val (.c (.bool true))):=by
 rw[J1C]
 simp only[len_uIs,oS,List.length_nil,show(((0:Nat):Int)=((0:Nat):Int))from rfl,dY,Bool.not_true,bF,iF]
 rw[z1p]
 simp only[len_uIs,oS,List.length_nil,show¬((0:Int)<((0:Nat):Int)) by omega,dF,bF,iF]
theorem Q1h{a:Int}{l:List Int}{es:List E4}{xs:List (Bool×List Int)}(h:few a l es xs=true):es.length<=60/\l.length<=40/\xs.length<=12/\ ∀x∈xs,x.2.length<=40:=by
 unfold few at h
 simp only[bA,dE,List.all_eq_true]at h
 exact⟨h.1.1.1.2,h.1.1.2,h.1.2,h.2⟩
theorem w1f{l:List Int}{es:List E4}{xs:List (Bool×List Int)}:auL l es (cp xs)=auL l es xs:=by
 have h: ∀k,((cp xs).getD k (false,[])).2=(xs.getD k (false,[])).2:=fun k=>by
  unfold cp
  rw[lG,lG,List.getElem?_map]
  cases xs[k]? <;>rfl
 unfold auL
 rw[Z0d]
 simp only[h]
section
variable{lim:Nat}{H:Heap}{F:Nat->Prop}{a:Int}{b1 b2 b3:Bool}{l:List Int}{es:List E4}{xs:List (Bool×List Int)}{c1 c2 c3:C}
variable(hl:lim<=H.next)(hF: ∀i,F i->i<H.next)(u1:UC H F (uIs b1 l) [c1])(u2:UC H F (uEs b2 es) [c2])(u3:UC H F (uLs b3 xs) [c3])(hll:l.length<=1000000)(he:es.length<=1000000)(hx:xs.length<=1000000)(hxs: ∀x∈xs,x.2.length<=1000000)
include hl hF u1 u2 u3 hll he hx hxs
end
section
variable{H:Heap}{a:Int}{b1 b2 b3:Bool}{l:List Int}{es:List E4}{xs:List (Bool×List Int)}{c1 c2 c3:C}
variable(u1:UC H (fun i=>i<H.next) (uIs b1 l) [c1])(u2:UC H (fun i=>i<H.next) (uEs b2 es) [c2])(u3:UC H (fun i=>i<H.next) (uLs b3 xs) [c3])
include u1 u2 u3
end
def qsE(a t p:Nat)(e:E4):Int×Int:=(t*a+e.t,p*a+e.f)
def qsP(es:List E4)(w0 w1:List Int)(a n p:Nat):List (Int×Int):=(es.filter fun e=>rdI e (letr w0 w1 p)).map (qsE a (toP w0 n p) p)
def qsTo(es:List E4)(w0 w1:List Int)(a n k:Nat):List (Int×Int):=(List.range k).flatMap (qsP es w0 w1 a n)
theorem Q1L{e:E4}{es:List E4}{w0 w1:List Int}{a n p:Nat}(h:rdI e (letr w0 w1 p)=true):qsP (e::es) w0 w1 a n p=qsE a (toP w0 n p) p e::qsP es w0 w1 a n p:=by simp[qsP,h]
theorem Z1S{e:E4}{es:List E4}{w0 w1:List Int}{a n p:Nat}(h:rdI e (letr w0 w1 p)=false):qsP (e::es) w0 w1 a n p=qsP es w0 w1 a n p:=by simp[qsP,h]
theorem Q1M(es:List E4)(w0 w1:List Int)(a n p:Nat):(qsP es w0 w1 a n p).length<=es.length:=by
 rw[qsP,List.length_map];exact List.length_filter_le _ _
theorem Z0g(es:List E4)(w0 w1:List Int)(a n k:Nat):qsTo es w0 w1 a n (k+1)=qsTo es w0 w1 a n k++qsP es w0 w1 a n k:=by
 simp[qsTo,List.range_succ]
theorem J0n(es:List E4)(w0 w1:List Int)(a n:Nat): ∀k,(qsTo es w0 w1 a n k).length<=k*es.length
 | 0=>by simp[qsTo]
 |k+1=>by
  rw[Z0g,List.length_append,Nat.succ_mul]
  have:=J0n es w0 w1 a n k
  have:=Q1M es w0 w1 a n k
  omega
def rowsQ(a n:Nat)(es:List E4)(w0 w1:List Int):List (Bool×List Int):=tabU (tabD (n*a) (qsTo es w0 w1 a n n))
def setQ(a N:Nat)(l:List Int):List Bool:=(List.range N).map fun v=>decide (((v % a:Nat):Int)∈l)
@[simp] theorem setQ_len (a N:Nat) (l:List Int):(setQ a N l).length=N:=by simp[setQ]
theorem inB_setQ{a N v:Nat}{l:List Int}:inB (setQ a N l) v↔v<N/\((v % a:Nat):Int)∈l:=by
 unfold inB setQ
 by_cases h:v<N
 ·simp[h]
 ·rw[List.getElem?_eq_none (by simp;omega)];simp[h]
def setsQ(a N:Nat)(xs:List (Bool×List Int)):List (List Bool):=xs.map fun x=>setQ a N x.2
structure AQ (lim:Nat) (H0:Heap) (F:Nat->Prop) (b a:Nat) (l:List Int) (es:List E4) (xs:List (Bool×List Int)) (w0 w1:List Int) (b1 b2 b3:Bool) (c1 c2 c3:C) (ja:Nat) (cl:C):Prop where
 hl:lim<=b
 hF: ∀i,F i->i<b
 ha:a<=300
 he:es.length<=6000
 hx:xs.length<=8
 ok:es.all (eOK (a:Int))=true
 wp:0<w1.length
 wl:(w0++w1).all ltr=true
 wn:w0.length+w1.length<=60
 hja:F ja
 gja:H0.get ja=some (.cells 4 [.int .i64 (a:Int),c1,c2,c3])
 u1:UC H0 F (uIs b1 l) [c1]
 u2:UC H0 F (uEs b2 es) [c2]
 u3:UC H0 F (uLs b3 xs) [c3]
 cl: ∃bb,UC H0 F (uIs bb (w0++w1)) [cl]
 hls:l.length<=1000000/\ ∀s∈l,0<=s/\s<(a:Int)
 hxs: ∀x∈xs,x.2.length<=1000000/\ ∀s∈x.2,0<=s/\s<(a:Int)
section
variable{lim:Nat}{M:YM}(hM:CallsY lim M.ext){H0:Heap}{F:Nat->Prop}{b a:Nat}{b1 b2 b3:Bool}{l:List Int}{es:List E4}{xs:List (Bool×List Int)}{w0 w1:List Int}{c1 c2 c3 cl:C}{ja:Nat}
variable(A:AQ lim H0 F b a l es xs w0 w1 b1 b2 b3 c1 c2 c3 ja cl)
variable{x0 x5 p0:Int}{y1 y2 y3 y4 y6 y7 y8 p1 p2 p3 p7 p8:C}{n:Nat}(hn:n=w0.length+w1.length)
include A
theorem AQ.gj{H:Heap}(f:FrB b H0 H):H.get ja=some (.cells 4 [.int .i64 (a:Int),c1,c2,c3]):=by rw[f.old ja (A.hF ja A.hja)];exact A.gja
include hM hn
theorem q1C{p:Nat}(hp:p<n):
  ∀(d i:Nat) (H:Heap) (ps:List (Int×Int)),i+d=es.length->ps.length+d<=1000000->FrB b H0 H->TabO H b (tabD (n*a) ps)->
  ∃H',f46_3 (MH lim) (.ptr ja 0) x0 y1 y2 y3 y4 x5 y6 y7 y8 p0 p1 p2 p3 cl (w0.length:Int) (.slice b 0 (n*a)) p7 p8 (p:Int) (letr w0 w1 p) (toP w0 n p:Int) cl (n:Int) (p:Int) c2 (es.length:Int) (i:Int) H=
    f46_1 (MH lim) (.ptr ja 0) x0 y1 y2 y3 y4 x5 y6 y7 y8 p0 p1 p2 p3 cl (w0.length:Int) (.slice b 0 (n*a)) p7 p8 cl (n:Int) ((p+1:Nat):Int) H'/\
   FrB b H0 H'/\TabO H' b (tabD (n*a) (ps++qsP (es.drop i) w0 w1 a n p)):=by
 intro d
 induction d with
 |zero=>
  intro i H ps hi hps f t
  refine⟨H, ?_,f,by rw[dL (by omega)];simpa[qsP]using t⟩
  have:=A.wn
  rw[Q0W]
  simp only[show¬((i:Int)<(es.length:Int)) by omega,dF,bF,iF,q0b (show p<=1000000000 by omega)]
 |succ d ih=>
  intro i H ps hi hps f t
  have hlt:i<es.length:=by omega
  have hg:es[i]? =some es[i]:=q0a hlt
  have ha:=A.ha;have hwn:=A.wn;have he:=A.he
  obtain⟨⟨s,hs1,hs2⟩,⟨t',ht1,ht2⟩,hb1,hb2⟩:=k0q A.ok hg
  obtain⟨i1,o1,g1,g2,g3,g4,g5,g6⟩:=rdE (j0Y A.u2 f A.hF) hg
  have hF: ∀i,F i->i<H.next:=fun i hi=>nL (A.hF i hi) f.next
  obtain⟨v2,H2,F2,m1,m2,m3⟩:=z0X hM (f:=60) (us:=[uE es[i],uI (letr w0 w1 p)]) (vs:=[.agg [.int .i64 es[i].f, .int .i64 es[i].t, .int .i64 es[i].n, .int .i64 es[i].v], .c (.int .i64 (letr w0 w1 p))]) (Z1B (M:=M) es[i] (letr w0 w1 p)) rfl (nT A.hl f.next) hF (w1q (q1v _) W0W)
  have:=m3.bool
  subst this
  have f2:=f.fr (z0x m2)
  have t2:=t.grow (z0x m2)
  have q2:f60 (MH lim) es[i].f es[i].t es[i].n es[i].v (letr w0 w1 p) H=some (.c (.bool (rdI es[i] (letr w0 w1 p))),H2):=m1
  have eI:IntKind.wrap .i64 ((i:Int)+1)=((i+1:Nat):Int):=q0b (by omega)
  have htp:toP w0 n p<n:=by have:=A.wp;unfold toP;split<;>omega
  have hbn:p*a<=60*300:=Nat.mul_le_mul (by omega) ha
  have hbt:toP w0 n p*a<=60*300:=Nat.mul_le_mul (by omega) ha
  have e1:IntKind.wrap .i64 ((p:Int)*(a:Int))=((p*a:Nat):Int):=by rw[<-Int.natCast_mul,q0e (by omega) (by omega)]
  have e2:IntKind.wrap .i64 (((p*a:Nat):Int)+(s:Int))=((p*a+s:Nat):Int):=by rw[q0e (by omega) (by omega)];omega
  have e3:IntKind.wrap .i64 ((toP w0 n p:Int)*(a:Int))=((toP w0 n p*a:Nat):Int):=by rw[<-Int.natCast_mul,q0e (by omega) (by omega)]
  have e4:IntKind.wrap .i64 (((toP w0 n p*a:Nat):Int)+(t':Int))=((toP w0 n p*a+t':Nat):Int):=by rw[q0e (by omega) (by omega)];omega
  have hnode:=z0i (a:=n) (n:=a) hp hs2
  have hps1:qsE a (toP w0 n p) p es[i]=(((toP w0 n p*a+t':Nat):Int),((p*a+s:Nat):Int)):=by unfold qsE;rw[hs1,ht1];simp
  have gj:=A.gj f2
  rw[List.drop_eq_getElem_cons hlt]
  by_cases hr:rdI es[i] (letr w0 w1 p)=true
  ·have hrl:=j0G ps (p*a+s)
   obtain⟨x,z1,z2,c',H3,z3,z4,H4,z5,z6,z7,z8⟩:=t2.push (lim:=lim) A.hl (j0F hnode) ((toP w0 n p*a+t':Nat):Int) (by omega)
   rw[<-w0J hnode]at z6
   obtain⟨H',y1',y2',y3'⟩:=ih (i+1) H4 (ps++[(((toP w0 n p*a+t':Nat):Int),((p*a+s:Nat):Int))]) (by omega) (by simp;omega) ⟨nT f2.next z8,fun j hj=>by rw[z7 j hj];exact f2.old j hj⟩ z6
   refine⟨H', ?_,y2', ?_⟩
   ·rw[Q0W]
    simp only[show((i:Int)<(es.length:Int)) by omega,dY,iT,g1,g3,g4,g5,g6,oS,asI_int,q2,asC_c,asB_bool,hr]
    simp only[hs1,ht1,asP_ptr,oS,q0c gj,List.getElem?_cons_zero,asI_int,e1,e2,e3,e4,q0j hnode,z1,z2,z3,z5,W0A,eI,y1']
   ·rw[Q1L hr,hps1]
    rw[List.append_assoc]at y3'
    exact y3'
  ·simp only[Bool.not_eq_true]at hr
   obtain⟨H',y1',y2',y3'⟩:=ih (i+1) H2 ps (by omega) (by omega) f2 t2
   refine⟨H', ?_,y2', ?_⟩
   ·rw[Q0W]
    simp only[show((i:Int)<(es.length:Int)) by omega,dY,iT,g1,g3,g4,g5,g6,oS,asI_int,q2,asC_c,asB_bool,hr,bF,iF,W0A,eI,y1']
   ·rw[Z1S hr];exact y3'
theorem q1D: ∀(d p:Nat) (H:Heap),p+d=n->FrB b H0 H->TabO H b (tabD (n*a) (qsTo es w0 w1 a n p))->
  ∃H',f46_1 (MH lim) (.ptr ja 0) x0 y1 y2 y3 y4 x5 y6 y7 y8 p0 p1 p2 p3 cl (w0.length:Int) (.slice b 0 (n*a)) p7 p8 cl (n:Int) (p:Int) H=
    f46_5 (MH lim) (.ptr ja 0) x0 y1 y2 y3 y4 x5 y6 y7 y8 p0 p1 p2 p3 cl (w0.length:Int) (.slice b 0 (n*a)) p7 p8 c3 (xs.length:Int) 0 H'/\
   FrB b H0 H'/\TabO H' b (tabD (n*a) (qsTo es w0 w1 a n n)):=by
 have ha:=A.ha;have hwn:=A.wn;have he:=A.he;have hw1:=A.wp
 obtain⟨bl,ul⟩:=A.cl
 intro d
 induction d with
 |zero=>
  intro p H hp f t
  have:p=n:=by omega
  subst this
  refine⟨H, ?_,f,t⟩
  have gj:=A.gj f
  have l3:Heap.ld H ja (0+3)=some c3:=by rw[q0c gj];rfl
  rw[W0x]
  simp only[Int.lt_irrefl,dF,bF,iF,asP_ptr,oS,l3,J1q (j0Y A.u3 f A.hF)]
 |succ d ih=>
  intro p H hp f t
  have hpn:p<n:=by omega
  have hgl:(w0++w1)[p]? =some (letr w0 w1 p):=by
   rw[j0Z (by omega)]
   have:p<(w0++w1).length:=by rw[List.length_append];omega
   unfold at0
   rw[lG,q0a this];rfl
  obtain⟨i1,o1,k1,k2,k3⟩:=rdN (j0Y ul f A.hF) hgl
  have hlen:C.len cl=some n:=by have:=J0i ul;rwa [List.length_append,<-hn]at this
  have hql:=J0n es w0 w1 a n p
  have hqm:p*es.length<=60*6000:=Nat.mul_le_mul (by omega) he
  have gj:=A.gj f
  have l2:Heap.ld H ja (0+2)=some c2:=by rw[q0c gj];rfl
  obtain⟨H1,q1,q2,q3⟩:=q1C hM A hn hpn (x0:=x0) (x5:=x5) (p0:=p0) (y1:=y1) (y2:=y2) (y3:=y3) (y4:=y4) (y6:=y6) (y7:=y7) (y8:=y8) (p1:=p1) (p2:=p2) (p3:=p3) (p7:=p7) (p8:=p8) es.length 0 H (qsTo es w0 w1 a n p) (by omega) (by omega) f t
  rw[List.drop_zero,<-Z0g]at q3
  obtain⟨H',z1,z2⟩:=ih (p+1) H1 (by omega) q2 q3
  refine⟨H', ?_,z2⟩
  rw[show((0:Nat):Int)=0 from rfl]at q1
  rw[<-z1,<-q1,W0x]
  have wp:IntKind.wrap .i64 ((p:Int)+1)=((p+1:Nat):Int):=q0b (by omega)
  by_cases hl:p+1=n
  ·have e0:toP w0 n p=w0.length:=by unfold toP;rw[if_pos hl]
   simp only[show((p:Int)<(n:Int)) by omega,dY,iT,k1,k3,oS,asI_int,hlen,wp,show(((p+1:Nat):Int)=(n:Int)) by omega,W0y,asP_ptr,l2,Z1M (j0Y A.u2 f A.hF),e0]
  ·have e0:toP w0 n p=p+1:=by unfold toP;rw[if_neg hl]
   simp only[show((p:Int)<(n:Int)) by omega,dY,iT,k1,k3,oS,asI_int,hlen,wp,show¬(((p+1:Nat):Int)=(n:Int)) by omega,dF,bF,iF,W0y,asP_ptr,l2,Z1M (j0Y A.u2 f A.hF),e0]
end
section
variable{M:YM}{n a:Nat}{b b1 b2 b3:Bool}{l li:List Int}{es:List E4}{xs:List (Bool×List Int)}
def fnQ(a:Nat)(u1 u2 u3:U):U:= .fn 86 [] [.ref (.st [uI (a:Int),u1,u2,u3]) 0]
theorem Z1T{u1 u2 u3:U}(ha:0<a)(v:Nat):ycall M 86 ([]++[.c (.int .i64 (v:Int))]++[.ref (.st [uI (a:Int),u1,u2,u3]) 0])=some (.val (.c (.int .i64 ((v % a:Nat):Int)))):=by
 have h:y86 M (v:Int) (.ref (.st [uI (a:Int),u1,u2,u3]) 0)=some (.val (.c (.int .i64 ((v % a:Nat):Int)))):=by
  rw[Z1b]
  have e:U.cell (.st [uI (a:Int),u1,u2,u3]) 0=some (uI (a:Int)):=rfl
  simp only[U.asR,oS,e,asI_uI,show¬((a:Int)=0) by omega,iF,z0E]
 exact h
theorem Q1N{u1 u2 u3:U}(ha:n=0\/0<a)(hn:n<=1000000)(hll:l.length<=1000000): ∀(d i:Nat) (out:List Bool),i+d=n->out.length=n->(∀x,inB out x↔x<i/\((x % a:Nat):Int)∈l)->
  y85_1 M (uIs b l) (fnQ a u1 u2 u3) (n:Int) (i:Int) ⟨true,1,uBs out⟩=some (.sl ⟨true,1,uBs (setQ a n l)⟩):=by
 intro d
 induction d with
 |zero=>
  intro i out hi ho hx
  rw[W0e]
  simp only[show¬((i:Int)<(n:Int)) by omega,dF,bF,iF,j0z,iT]
  rw[q1z (l:=out) (l':=setQ a n l) (by simp[ho]) fun x=>by
   rw[hx,inB_setQ]
   exact⟨fun h=>⟨by omega,h.2⟩,fun h=>⟨by omega,h.2⟩⟩]
 |succ d ih=>
  intro i out hi ho hx
  have hc:i<out.length:=by omega
  have ha':0<a:=by omega
  have e86:=Z1T (M:=M) (u1:=u1) (u2:=u2) (u3:=u3) ha' i
  rw[W0e]
  simp only[show((i:Int)<(n:Int)) by omega,dY,iT,fnQ,U.asF,oS,e86,toU_val,asI_c,K1f ((i % a:Nat):Int) hll,asB_c,j0j hc,iN,j0p hc,q0b (show i<=1000000000 by omega)]
  refine ih (i+1) _ (by omega) (by rw[List.length_set];exact ho) fun x=> ?_
  rw[k0o hc,hx,dE]
  constructor
  ·rintro(⟨rfl,h⟩ |⟨h1,h2,h3⟩)
   ·exact⟨by omega,h⟩
   ·exact⟨by omega,h3⟩
  ·rintro⟨h1,h2⟩
   by_cases e:x=i
   ·exact .inl ⟨e,by rw[<-e];exact h2⟩
   ·exact .inr ⟨e,by omega,h2⟩
theorem K1N{u1 u2 u3:U}(ha:n=0\/0<a)(hn:n<=1000000)(hll:l.length<=1000000):y85 M (uIs b l) (n:Int) (fnQ a u1 u2 u3)=some (.sl ⟨true,1,uBs (setQ a n l)⟩):=by
 rw[Z1a,if_pos ⟨by omega,by omega,rfl⟩,J0f,iN,uBs_length,List.length_replicate]
 exact Q1N ha hn hll n 0 _ (by omega) (by simp) fun x=>⟨fun h=>absurd h z0g,fun h=>absurd h.1 (Nat.not_lt_zero _)⟩
end
theorem X0S{H:Heap}{i o:Nat}{x:C}(h:Heap.ld H i o=some x):seenC H i o .c (.c x)=true:=by
 unfold seenC
 rw[h]
 exact k0v x
theorem X0T{H:Heap}{j z:Nat}{a:Int}{c1 c2 c3:C}(h:H.get j=some (.cells z [.int .i64 a,c1,c2,c3])):seenA H j 0 [.int .i64, .c, .c, .c] (.agg [.int .i64 a,c1,c2,c3])=true:=by
 unfold seenA
 simp only[Heap.lds,q0c h,List.getElem?_cons_zero,List.getElem?_cons_succ,oS,K0.take,asI_int,Nat.zero_add]
 exact J0r _
theorem Z1R{H:Heap}{F:Nat->Prop}{ja a z:Nat}{u1 u2 u3:U}{c1 c2 c3:C}(hj:F ja)(h:H.get ja=some (.cells z [.int .i64 (a:Int),c1,c2,c3]))(k1:UC H F u1 [c1])(k2:UC H F u2 [c2])(k3:UC H F u3 [c3])(s1:u1.isSt=false)(s2:u2.isSt=false)(s3:u3.isSt=false):UC H F (fnQ a u1 u2 u3) [.func 86 [] [.ptr ja 0]]:=
 ⟨[],[.ptr ja 0],rfl,rfl, .ptr ja 0,[],rfl,rfl,⟨ja,0,z,_,4,rfl,hj,h,by simp,_,_,rfl,rfl,⟨rfl,rfl⟩,_,_,rfl,s1,k1,_,_,rfl,s2,k2,_,_,rfl,s3,k3,rfl⟩,rfl⟩
section
variable{lim:Nat}{M:YM}(hM:CallsY lim M.ext){H0:Heap}{F:Nat->Prop}{b a:Nat}{b1 b2 b3:Bool}{l:List Int}{es:List E4}{xs:List (Bool×List Int)}{w0 w1:List Int}{c1 c2 c3 cl:C}{ja:Nat}
variable(A:AQ lim H0 F b a l es xs w0 w1 b1 b2 b3 c1 c2 c3 ja cl)
variable{x0 x5 p0:Int}{y1 y2 y3 y4 y6 y7 y8 p1 p2 p3 p7:C}{N:Nat}(hN:N=0\/0<a)(hNb:N<=1000000)
include hM A hN hNb
theorem q1B{Hm:Heap}(fm:FrB b H0 Hm):
  ∀(d k:Nat) (H:Heap) (G:Nat->Prop) (c:C),k+d=xs.length->Grow Hm H->(∀i,F i->G i)->(∀i,G i->i<H.next)->(∀i,G i->F i\/Hm.next<=i)->OutR Hm.next H G 1 ((setsQ a N (xs.take k)).map setU) c->
  ∃(H':Heap) (G':Nat->Prop) (c':C),f46_5 (MH lim) (.ptr ja 0) x0 y1 y2 y3 y4 x5 y6 y7 y8 p0 p1 p2 p3 cl (w0.length:Int) (.slice b 0 N) p7 c c3 (xs.length:Int) (k:Int) H=some (.agg [.int .i64 p0,p1,p2,p3,cl, .int .i64 (w0.length:Int), .slice b 0 N,p7,c'],H')/\
   Grow Hm H'/\(∀i,F i->G' i)/\(∀i,G' i->i<H'.next)/\(∀i,G' i->F i\/Hm.next<=i)/\OutR Hm.next H' G' 1 ((setsQ a N xs).map setU) c':=by
 have ha:=A.ha;have hx8:=A.hx
 intro d
 induction d with
 |zero=>
  intro k H G c hk g h1 h2 h3 h4
  have:k=xs.length:=by omega
  subst this
  rw[List.take_length]at h4
  refine⟨H,G,c, ?_,g,h1,h2,h3,h4⟩
  rw[W0z]
  simp only[Int.lt_irrefl,dF,bF,iF]
 |succ d ih=>
  intro k H G c hk g h1 h2 h3 h4
  have hlt:k<xs.length:=by omega
  have hg:xs[k]? =some xs[k]:=q0a hlt
  obtain⟨hx1,hx2⟩:=A.hxs _ (lM hlt)
  have fa:FrB b H0 H:=fm.fr g
  obtain⟨i1,o1,cc,g1,g2,g3,g4⟩:=rdL (j0Y A.u3 fa A.hF) hg
  have g4':UC H G (uIs xs[k].1 xs[k].2) [cc]:=g4.mono ⟨h1,fun i hi=>rfl⟩
  have mG:FLe H F H G:=⟨h1,fun i hi=>rfl⟩
  have uf:UC H G (fnQ a (uIs b1 l) (uEs b2 es) (uLs b3 xs)) [.func 86 [] [.ptr ja 0]]:=Z1R (h1 ja A.hja) (A.gj fa) ((j0Y A.u1 fa A.hF).mono mG) ((j0Y A.u2 fa A.hF).mono mG) ((j0Y A.u3 fa A.hF).mono mG) rfl rfl rfl
  obtain⟨v,H1,G1,m1,m2,m3⟩:=z0X hM (f:=85) (us:=[uIs xs[k].1 xs[k].2,uI (N:Int),fnQ a (uIs b1 l) (uEs b2 es) (uLs b3 xs)]) (vs:=[.c cc, .c (.int .i64 (N:Int)), .c (.func 86 [] [.ptr ja 0])]) (K1N (M:=M) (b:=xs[k].1) hN hNb hx1) rfl (nT A.hl fa.next) h2 ⟨_,_,rfl,⟨rfl,g4'⟩,_,_,rfl,W0W,_,_,rfl,⟨rfl,uf⟩,rfl⟩
  obtain⟨vc,rfl,m4⟩:=m3.one rfl
  have q1:f85 (MH lim) cc (N:Int) (.func 86 [] [.ptr ja 0]) H=some (.c vc,H1):=m1
  have f2:FrX none H G (H1.alloc (.cells 1 [vc])) G1:=m2.trans (FrX.alloc _ m2.lt)
  have o2:=h4.fr f2 (fun i e=>by cases e) h2
  have u2:UC (H1.alloc (.cells 1 [vc])) G1 (setU (setQ a N xs[k].2)) [vc]:=m4.mono ⟨fun _ h=>h,fun i hi=>q0g (m2.lt i hi)⟩
  obtain⟨c',H2,y1',y2',y3',y4',y5'⟩:=o2.app (lim:=lim) (nT A.hl fm.next) f2.lt (nT g.next f2.next) u2 rfl (by simp[setsQ];omega)
  have e:(setsQ a N (xs.take (k+1))).map setU=(setsQ a N (xs.take k)).map setU++[setU (setQ a N xs[k].2)]:=by
   rw[List.take_add_one,hg]
   simp only[setsQ,Option.toList_some,List.map_append,List.map_cons,List.map_nil]
  obtain⟨H',G',c'',q,q'⟩:=ih (k+1) H2 G1 c' (by omega) ⟨nT g.next (nT f2.next y3'),fun i hi=>by
    rw[y5' i hi,f2.keep i (nL hi g.next) (fun e=>by cases e)];exact g.keep i hi⟩ (fun i hi=>f2.sub i (h1 i hi)) (fun i hi=>nL (f2.lt i hi) y3')
   (fun i hi=>(f2.new i hi).elim (h3 i) fun e=> .inr (nT g.next e)) (by rw[e];exact y2')
  refine⟨H',G',c'', ?_,q'⟩
  rw[W0z]
  simp only[show((k:Int)<(xs.length:Int)) by omega,dY,iT,g1,g3,oS,len_slice,q1,asC_c,w0E,y1',q0b (show k<=1000000000 by omega),q]
end
section
variable{lim:Nat}{M:YM}(hM:CallsY lim M.ext){H:Heap}{F:Nat->Prop}{a:Nat}{b1 b2 b3 b4 b5:Bool}{l:List Int}{es:List E4}{xs:List (Bool×List Int)}{w0 w1:List Int}{c1 c2 c3 d0 d1:C}
variable(A:AW lim H F H.next a l es xs w0 w1 b1 b2 b3 b4 b5 c1 c2 c3 d0 d1){n:Nat}(hn:n=w0.length+w1.length)
include hM A hn
theorem Q1K: ∃(cl cs:C) (j:Nat) (H':Heap) (bb:Bool),f46 (MH lim) (a:Int) c1 c2 c3 d0 d1 H=some (.agg [.int .i64 (a:Int),c1,c2,c3,cl, .int .i64 (w0.length:Int), .slice j 0 (n*a),c1,cs],H')/\Grow H H'/\
  UC H' (fun i=>F i\/(H.next<=i/\i<H'.next)) (uLs true (rowsQ a n es w0 w1)) [.slice j 0 (n*a)]/\UC H' (fun i=>F i\/(H.next<=i/\i<H'.next)) (.sl bb ((setsQ a (n*a) xs).map setU)) [cs]:=by
 have ha:=A.ha;have hwn:=A.wn;have he:=A.he;have hw1:=A.wp;have hlim:=A.hl
 have hNb:n*a<=60*300:=Nat.mul_le_mul (by omega) ha
 have gj:(H.alloc (.cells 4 [.int .i64 (a:Int),c1,c2,c3])).get H.next=some (.cells 4 [.int .i64 (a:Int),c1,c2,c3]):=alloc_new _ _
 have gr1:Grow H (H.alloc (.cells 4 [.int .i64 (a:Int),c1,c2,c3])):= .alloc H _
 generalize hH1:H.alloc (.cells 4 [.int .i64 (a:Int),c1,c2,c3])=H1 at gj gr1
 have n1:H1.next=H.next+1:=by rw[<-hH1];rfl
 have gr9:Grow H (H1.alloc (.cells 1 [d0,d1])):=gr1.trans (.alloc H1 _)
 let F9:Nat->Prop:=fun i=>F i\/(H.next<=i/\i<H.next+2)
 have hF9: ∀i,F9 i->i<(H1.alloc (.cells 1 [d0,d1])).next:=fun i hi=>hi.elim (fun h=>by have:=A.hF i h;simp;omega) fun h=>by simp;omega
 have m9:FLe H F (H1.alloc (.cells 1 [d0,d1])) F9:=⟨fun i h=> .inl h,fun i hi=>gr9.keep i (A.hF i hi)⟩
 have u54:UC (H1.alloc (.cells 1 [d0,d1])) F9 (Sx.fz (⟨true,1,[uIs b4 w0,uIs b5 w1]⟩:Sx)) [.slice H1.next 0 2]:=
  .inr ⟨rfl,H1.next,0,[d0,d1],1,rfl, .inr ⟨by omega,by omega⟩,alloc_new _ _,by simp,[d0],[d1],rfl,rfl,A.v0.mono m9,[d1],[],rfl,rfl,A.v1.mono m9,rfl⟩
 obtain⟨s,s1,s2,s3⟩:=Z1E (M:=M) (b1:=b4) (b2:=b5) (l:=w0) (r:=w1) (by omega)
 obtain⟨v,H10,F10,r1,r2,r3⟩:=z0X hM (f:=54) (us:=[Sx.fz (⟨true,1,[uIs b4 w0,uIs b5 w1]⟩:Sx)]) (vs:=[.c (.slice H1.next 0 2)]) s1 rfl (by simp;omega) hF9 ⟨_,[],rfl,⟨rfl,u54⟩,rfl⟩
 have hfz:Sx.fz s=uIs s.b (w0++w1):=by unfold Sx.fz uIs;rw[s2]
 rw[hfz]at r3
 obtain⟨cl,rfl,r4⟩:=r3.one rfl
 have q54:f54 (MH lim) (.slice H1.next 0 2) (H1.alloc (.cells 1 [d0,d1]))=some (.c cl,H10):=r1
 have gr10:Grow H H10:=gr9.trans (z0x r2)
 have n10:H.next+2<=H10.next:=by have:=r2.next;simp at this;omega
 have gj10:H10.get H.next=some (.cells 4 [.int .i64 (a:Int),c1,c2,c3]):=by rw[(z0x r2).keep _ (by simp;omega),q0g (by omega)];exact gj
 have m10:FLe H F H10 F10:=⟨fun i h=>r2.sub i (.inl h),fun i hi=>gr10.keep i (A.hF i hi)⟩
 have Q:AQ lim H10 F10 H10.next a l es xs w0 w1 b1 b2 b3 c1 c2 c3 H.next cl:=
  ⟨by omega,r2.lt,ha,he,A.hx,A.ok,hw1,A.wl,hwn,r2.sub _ (.inr ⟨nR _,by omega⟩),gj10,A.u1.mono m10,A.u2.mono m10,A.u3.mono m10,⟨s.b,r4⟩,A.hls,A.hxs⟩
 have t0:=TabO.new H10 (n*a)
 rw[<-J0h]at t0
 have fr0:FrB H10.next H10 (H10.alloc (.cells 1 (List.replicate (n*a) [C.nilSlice]).flatten)):=⟨Nat.le_succ _,fun i hi=>q0g hi⟩
 obtain⟨Hm,g1,g2,g3⟩:=q1D hM Q hn (x0:=0) (x5:=0) (p0:=(a:Int)) (y1:= .nilSlice) (y2:= .nilSlice) (y3:= .nilSlice) (y4:= .nilSlice) (y6:= .nilSlice) (y7:= .nilSlice) (y8:= .nilSlice) (p1:=c1) (p2:=c2) (p3:=c3) (p7:=c1) (p8:= .nilSlice) n 0 (H10.alloc (.cells 1 (List.replicate (n*a) [C.nilSlice]).flatten)) (by omega) fr0 (by simpa[qsTo]using t0)
 have hFm: ∀i,F10 i->i<Hm.next:=fun i hi=>nL (r2.lt i hi) g2.next
 have hN0:n*a=0\/0<a:=by
  by_cases h:a=0
  ·exact .inl (by rw[h,Nat.mul_zero])
  ·exact .inr (by omega)
 obtain⟨H2,G,c',k1,k2,k3,k4,k5,k6⟩:=q1B hM Q (N:=n*a) hN0 (by omega) g2 (x0:=0) (x5:=0) (p0:=(a:Int)) (y1:= .nilSlice) (y2:= .nilSlice) (y3:= .nilSlice) (y4:= .nilSlice) (y6:= .nilSlice) (y7:= .nilSlice) (y8:= .nilSlice) (p1:=c1) (p2:=c2) (p3:=c3) (p7:=c1) xs.length 0 Hm F10 .nilSlice (by omega) (.refl _) (fun _ h=>h) hFm (fun _ h=> .inl h) .nil
 obtain⟨G2,o1,o2,bb,_,o3⟩:=k6.fin k4
 have hF10: ∀i,F10 i->F i\/(H.next<=i/\i<H2.next):=fun i hi=>by
  have h2:i<H10.next:=r2.lt i hi
  have h3:H10.next<=H2.next:=nT g2.next k2.next
  rcases r2.new i hi with h |h
  ·rcases h with h |h
   ·exact .inl h
   ·exact .inr ⟨h.1,by omega⟩
  ·exact .inr ⟨by simp at h;omega,by omega⟩
 have hn10:H.next<=H10.next:=by omega
 have hG: ∀i,G i->F i\/(H.next<=i/\i<H2.next):=fun i hi=>(k5 i hi).elim (hF10 i) fun h=> .inr ⟨by have:=g2.next;omega,k4 i hi⟩
 refine⟨cl,c',H10.next,H2,bb, ?_,⟨by have:=g2.next;have:=k2.next;omega,fun i hi=>by rw[(g2.fr k2).old i (by omega)];exact gr10.keep i hi⟩, ?_,o3.mono ⟨fun i hi=>(o2 i hi).elim (hG i) fun h=> .inr ⟨by have:=g2.next;omega,h.2⟩,fun _ _=>rfl⟩⟩
 ·have hlen:C.len cl=some n:=by have:=J0i r4;rwa [List.length_append,<-hn]at this
  have l0:Heap.ld H1 H.next 0=some (.int .i64 (a:Int)):=by rw[q0c gj];rfl
  have l1:Heap.ld H1 H.next 1=some c1:=by rw[q0c gj];rfl
  have l2:Heap.ld H1 H.next 2=some c2:=by rw[q0c gj];rfl
  have l3:Heap.ld H1 H.next 3=some c3:=by rw[q0c gj];rfl
  have l4:Heap.ld H10 H.next 0=some (.int .i64 (a:Int)):=by rw[q0c gj10];rfl
  have l5:Heap.ld H10 H.next 1=some c1:=by rw[q0c gj10];rfl
  have wN:IntKind.wrap .i64 ((n:Int)*(a:Int))=((n*a:Nat):Int):=by rw[<-Int.natCast_mul,q0e (by omega) (by omega)]
  rw[Z1m]
  rw[show((0:Nat):Int)=0 from rfl]at g1 k1
  simp only[hH1,J0i A.v0,oS,l0,l1,l2,l3,asI_int,q54,asC_c,X0T gj10,X0S l5,iT,hlen,l4,wN,show(0:Int)<=((n*a:Nat):Int)/\((n*a:Nat):Int)<=2 ^ 36 by omega,and_self,iN]
  rw[g1,k1]
 ·have:=(g3.grow k2).uc (F:=fun i=>F i\/(H.next<=i/\i<H2.next)) fun i hi hi2=> .inr ⟨by omega,hi2⟩
  rw[j0d]at this
  exact this
end
structure PW (a:Nat) (l:List Int) (es:List E4) (xs:List (Bool×List Int)) (w0 w1:List Int) (n:Nat):Prop where
 hn:n=w0.length+w1.length
 ha:a<=300
 he:es.length<=6000
 ok:es.all (eOK (a:Int))=true
 wp:0<w1.length
 wl:(w0++w1).all ltr=true
 wn:n<=60
 hls: ∀s∈l,0<=s/\s<(a:Int)
section
variable{a n:Nat}{l:List Int}{es:List E4}{xs:List (Bool×List Int)}{w0 w1:List Int}(A:PW a l es xs w0 w1 n)
include A
theorem PW.toP_lt{p:Nat}(hp:p<n):toP w0 n p<n:=by
 have:=A.wp;have:=A.hn
 unfold toP;split<;>omega
theorem PW.let0(p:Nat):(((letr w0 w1 p).toNat:Nat):Int)=letr w0 w1 p:=by
 have:=J0l (k:=p) A.wp A.wl
 simp only[btw,dE]at this
 omega
theorem PW.mem{u v:Int}:(v,u)∈qsTo es w0 w1 a n n↔ ∃p,p<n/\ ∃e∈es,rdI e (letr w0 w1 p)=true/\v=toP w0 n p*a+e.t/\u=p*a+e.f:=by
 simp only[qsTo,List.mem_flatMap,List.mem_range,qsP,List.mem_map,List.mem_filter,qsE,Prod.mk.injEq]
 constructor
 ·rintro⟨p,hp,e,⟨he,hr⟩,h1,h2⟩;exact⟨p,hp,e,he,hr,h1.symm,h2.symm⟩
 ·rintro⟨p,hp,e,he,hr,h1,h2⟩;exact⟨p,hp,e,⟨he,hr⟩,h1.symm,h2.symm⟩
theorem PW.tab:Table (n*a) (rowsQ a n es w0 w1):=by
 refine w0I (fun q hq=> ?_) ?_
 ·obtain⟨p,hp,e,he,_,h1,_⟩:=A.mem.1 (show(q.1,q.2)∈_ from hq)
  obtain⟨k,hk⟩:=List.mem_iff_getElem?.1 he
  obtain⟨_,⟨t,ht1,ht2⟩,_⟩:=k0q A.ok hk
  have:=z0i (A.toP_lt hp) ht2
  have e1:q.1=((toP w0 n p*a+t:Nat):Int):=by rw[h1,ht1];simp
  omega
 ·have h1:=J0n es w0 w1 a n n
  have h2:n*es.length<=60*6000:=Nat.mul_le_mul A.wn A.he
  omega
theorem PW.step{u v:Nat}:v∈nxL (rowsQ a n es w0 w1) u↔ ∃p s t,p<n/\s<a/\t<a/\u=p*a+s/\v=toP w0 n p*a+t/\(auL l es xs).step s (letr w0 w1 p).toNat t:=by
 rw[q0J A.tab]
 unfold rowsQ
 rw[w1j,A.mem]
 constructor
 ·rintro⟨_,p,hp,e,he,hr,h1,h2⟩
  obtain⟨k,hk⟩:=List.mem_iff_getElem?.1 he
  obtain⟨⟨s,hs1,hs2⟩,⟨t,ht1,ht2⟩,_⟩:=k0q A.ok hk
  refine⟨p,s,t,hp,hs2,ht2, ?_, ?_,e,he,hs1,ht1,by rw[A.let0 p];exact hr⟩
  ·have:(u:Int)=((p*a+s:Nat):Int):=by rw[h2,hs1];simp
   omega
  ·have:(v:Int)=((toP w0 n p*a+t:Nat):Int):=by rw[h1,ht1];simp
   omega
 ·rintro⟨p,s,t,hp,hs,ht,h1,h2,e,he,hs1,ht1,hr⟩
  rw[A.let0 p]at hr
  refine⟨by rw[h1];exact z0i hp hs,p,hp,e,he,hr,by rw[ht1,h2];simp,by rw[hs1,h1];simp⟩
theorem PW.path{f:Nat->Nat}(h0:f 0<a)(hs: ∀i,f (i+1)∈nxL (rowsQ a n es w0 w1) (f i))(i:Nat):f i / a=posN w0 n i/\f i % a<a/\(auL l es xs).step (f i % a) (wrd w0 w1 i) (f (i+1) % a):=by
 have ha0:0<a:=by omega
 have st: ∀i,f (i+1) / a=toP w0 n (f i / a)/\(auL l es xs).step (f i % a) (letr w0 w1 (f i / a)).toNat (f (i+1) % a):=fun i=>by
  obtain⟨p,s,t,h1,h2,h3,h4,h5,h6⟩:=(A.step (xs:=xs)).1 (hs i)
  obtain⟨d1,d2⟩:=j0c (s:=p) h2
  obtain⟨d3,d4⟩:=j0c (s:=toP w0 n p) h3
  rw[h4,h5,d1,d2,d3,d4]
  exact⟨rfl,h6⟩
 have pos: ∀i,f i / a=posN w0 n i:=by
  intro i
  induction i with
  |zero=>rw[Nat.div_eq_of_lt h0];rfl
  |succ i ih=>rw[(st i).1,ih];rfl
 refine⟨pos i,Nat.mod_lt _ ha0, ?_⟩
 have:=(st i).2
 rw[pos i,w0p A.hn A.wp]at this
 exact this
theorem PW.inf{s:Nat}(hs:s<a):Inf (nxT (rowsQ a n es w0 w1)) xs.length (fun k=>inB ((setsQ a (n*a) xs).getD k [])) s↔
  ∃ρ:Nat->Nat,ρ 0=s/\(∀i,(auL l es xs).step (ρ i) (wrd w0 w1 i) (ρ (i+1)))/\ ∀k,k<(auL l es xs).m-> ∀N,∃i,N<=i/\(auL l es xs).acc k (ρ i):=by
 have ha0:0<a:=by omega
 have hset: ∀k,k<xs.length-> ∀v,inB ((setsQ a (n*a) xs).getD k []) v↔v<n*a/\((v % a:Nat):Int)∈(xs.getD k (false,[])).2:=fun k hk v=>by
  unfold setsQ
  rw[lG,List.getElem?_map,lG,q0a hk]
  exact inB_setQ
 constructor
 ·rintro⟨f,f0,f1,f2⟩
  have f1': ∀i,f (i+1)∈nxL (rowsQ a n es w0 w1) (f i):=fun i=>(q0J A.tab).2 (f1 i)
  refine⟨fun i=>f i % a,by show f 0 % a=s;rw[f0,Nat.mod_eq_of_lt hs],fun i=>(A.path (by omega) f1' i).2.2,fun k hk N=> ?_⟩
  obtain⟨i,i1,i2⟩:=f2 k hk N
  exact⟨i,i1,((hset k hk _).1 i2).2⟩
 ·rintro⟨ρ,r0,r1,r2⟩
  have hlt: ∀i,ρ i<a:=fun i=>by
   obtain⟨e,he,h1,_⟩:=r1 i
   obtain⟨k,hk⟩:=List.mem_iff_getElem?.1 he
   obtain⟨⟨s',hs1,hs2⟩,_⟩:=k0q A.ok hk
   omega
  have hpos: ∀i,posN w0 n i<n:=fun i=>(j0y A.hn A.wp i).1
  refine⟨fun i=>posN w0 n i*a+ρ i,by simp[r0,posN],fun i=>(q0J A.tab).1 ((A.step (xs:=xs)).2 ⟨posN w0 n i,ρ i,ρ (i+1),hpos i,hlt i,hlt _,rfl,rfl, ?_⟩),fun k hk N=> ?_⟩
  ·rw[w0p A.hn A.wp];exact r1 i
  ·obtain⟨i,i1,i2⟩:=r2 k hk N
   refine⟨i,i1,(hset k hk _).2 ⟨z0i (hpos i) (hlt i), ?_⟩⟩
   show(((posN w0 n i*a+ρ i) % a:Nat):Int)∈_
   rw[(j0c (hlt i)).2];exact i2
theorem PW.turn{x y:Nat}(h:Rch (nxL (rowsQ a n es w0 w1)) x y):(∃t,Rch (nxL (rowsQ a n es w0 w1)) x t/\Rch (nxL (rowsQ a n es w0 w1)) t y/\t / a=w0.length)\/x / a<=y / a:=by
 induction h with
 |refl=>exact .inr (nR _)
 | @step x w y h1 h2 ih=>
  by_cases hw:w / a=w0.length
  ·exact .inl ⟨w, .one h1,h2,hw⟩
  ·rcases ih with⟨t,t1,t2,t3⟩ |h
   ·exact .inl ⟨t, .step h1 t1,t2,t3⟩
   ·obtain⟨p,s,t,q1,q2,q3,q4,q5,_⟩:=(A.step (l:=l) (xs:=xs)).1 h1
    have d1:=(j0c (s:=p) q2).1
    have d3:=(j0c (s:=toP w0 n p) q3).1
    rw[q5,d3]at hw h
    rw[q4,d1]
    right
    have:toP w0 n p=p+1:=by
     unfold toP at hw⊢
     split
     ·rename_i e;rw[if_pos e]at hw;exact absurd rfl hw
     ·rfl
    omega
theorem PW.noAcc{from':List Nat}(hfr: ∀s:Nat,(s:Int)∈l->s∈from')(h:NoLasso (nxL (rowsQ a n es w0 w1)) (· ∈from') (fun v=>decide (v / a=w0.length)) (setsQ a (n*a) xs)): ¬Acc (auL l es xs) (wrd w0 w1):=by
 rintro⟨ρ,r0,r1,r2⟩
 have hs0:=A.hls _ r0
 have hsl:(setsQ a (n*a) xs).length=xs.length:=by simp[setsQ]
 have hi:=(A.inf (s:=ρ 0) (by omega)).2 ⟨ρ,rfl,r1,r2⟩
 obtain⟨u,u1,u2⟩:=(z1n A.tab).1 hi
 obtain⟨⟨x,y,g1,g2,g3⟩,g4⟩:=u2
 have key: ∃t,Both (nxL (rowsQ a n es w0 w1)) u t/\t / a=w0.length:=by
  by_cases hy:y / a=w0.length
  ·exact⟨y,g3,hy⟩
  ·obtain⟨p,s,t,q1,q2,q3,q4,q5,_⟩:=(A.step (l:=l) (xs:=xs)).1 g1
   have d1:=(j0c (s:=p) q2).1
   have d3:=(j0c (s:=toP w0 n p) q3).1
   rcases A.turn (l:=l) (xs:=xs) (g3.2.trans g2.1)with⟨t,t1,t2,t3⟩ |h
   ·exact⟨t,⟨g3.1.trans t1,t2.trans g2.2⟩,t3⟩
   ·exfalso
    rw[q5,d3]at hy h
    rw[q4,d1]at h
    have:toP w0 n p=p+1:=by
     unfold toP at hy⊢
     split
     ·rename_i e;rw[if_pos e]at hy;exact absurd rfl hy
     ·rfl
    omega
 obtain⟨t,t1,t2⟩:=key
 have:=h (ρ 0) t (hfr _ r0) (u1.trans t1.1) ⟨⟨x,y,g1,t1.symm.trans g2,t1.symm.trans g3⟩,fun k hk=>by
  obtain⟨z,z1,z2⟩:=g4 k (by omega)
  exact⟨z,t1.symm.trans z1,z2⟩⟩
 simp[t2]at this
variable{from':List Nat}(hfr: ∀s:Nat,s∈from'->(s:Int)∈l){pre lp:List Nat}(hL:LassoR (nxL (rowsQ a n es w0 w1)) (n*a) (· ∈from') (fun v=>decide (v / a=w0.length)) (setsQ a (n*a) xs) pre lp)
include hfr hL
theorem PW.nodes:(rhoL pre lp (List.replicate pre.length 0) 0<a/\((rhoL pre lp (List.replicate pre.length 0) 0:Nat):Int)∈l)/\ ∀i,rhoL pre lp (List.replicate pre.length 0) (i+1)∈nxL (rowsQ a n es w0 w1) (rhoL pre lp (List.replicate pre.length 0) i):=by
 have h0:(List.replicate pre.length (0:Int)).length=pre.length:=by simp
 have h1:(List.replicate lp.length (0:Int)).length=lp.length:=by simp
 have hs:((stL pre lp 0:Nat):Int)∈l:=hfr _ hL.start
 have:=A.hls _ hs
 exact⟨⟨by show stL pre lp 0<a;omega,hs⟩,fun i=>hL.step h0 (Z1O h0 h1 hL.pos i)⟩
theorem PW.accepts:Acc (auL l es xs) (wrd w0 w1):=by
 obtain⟨⟨n1,n2⟩,n3⟩:=A.nodes hfr hL
 have hsl:(setsQ a (n*a) xs).length=xs.length:=by simp[setsQ]
 have h0:(List.replicate pre.length (0:Int)).length=pre.length:=by simp
 have h1:(List.replicate lp.length (0:Int)).length=lp.length:=by simp
 obtain⟨ρ,r0,r1,r2⟩:=(A.inf (l:=l) n1).1 ⟨rhoL pre lp (List.replicate pre.length 0),rfl,fun i=>(q0J A.tab).1 (n3 i),fun k hk N=>by
  obtain⟨t,t1,t2⟩:=hL.meets k (by rw[hsl];exact hk)
  obtain⟨i,i1,i2⟩:=q1y h0 h1 hL.pos t1 N
  exact⟨i,i1,by rw[i2];exact t2⟩⟩
 exact⟨ρ,by show((ρ 0:Nat):Int)∈l;rw[r0];exact n2,r1,r2⟩
theorem PW.posL{i:Nat}(hi:i<pre.length+lp.length):rhoL pre lp (List.replicate pre.length 0) i=stL pre lp i:=by
 have h0:(List.replicate pre.length (0:Int)).length=pre.length:=by simp
 have h1:(List.replicate lp.length (0:Int)).length=lp.length:=by simp
 have hp:=hL.pos
 have:=(j0y (w0:=List.replicate pre.length 0) (w1:=List.replicate lp.length 0) (n:=pre.length+lp.length) (by omega) (by omega) i).2
 unfold rhoL
 by_cases h:i<(List.replicate pre.length (0:Int)).length
 ·rw[if_pos h]at this;rw[this]
 ·rw[if_neg h,h0,h1,Nat.mod_eq_of_lt (by omega)]at this
  rw[show posN (List.replicate pre.length (0:Int)) (pre.length+lp.length) i=i by omega]
theorem PW.posE:rhoL pre lp (List.replicate pre.length 0) (pre.length+lp.length)=stL pre lp pre.length:=by
 have h0:(List.replicate pre.length (0:Int)).length=pre.length:=by simp
 have h1:(List.replicate lp.length (0:Int)).length=lp.length:=by simp
 have hp:=hL.pos
 have:=(j0y (w0:=List.replicate pre.length 0) (w1:=List.replicate lp.length 0) (n:=pre.length+lp.length) (by omega) (by omega) (pre.length+lp.length)).2
 rw[if_neg (by omega),h0,h1,show pre.length+lp.length - pre.length=lp.length by omega,Nat.mod_self]at this
 unfold rhoL
 rw[show posN (List.replicate pre.length (0:Int)) (pre.length+lp.length) (pre.length+lp.length)=pre.length by omega]
theorem PW.begin:stL pre lp pre.length / a=w0.length:=by
 obtain⟨g,g1,g2,_⟩:=hL.lead
 have hp:=hL.pos
 have e3:=w0N (pre:=pre) (lp:=lp) (p:=pre.length) (by omega)
 rw[List.getElem?_append_right (nR _),Nat.sub_self,<-List.head?_eq_getElem?,g1]at e3
 have:g=stL pre lp pre.length:=Option.some.inj e3
 rw[<-this];simpa using g2
theorem PW.shape:w0.length<=pre.length/\(pre.length - w0.length) % w1.length=0/\lp.length % w1.length=0:=by
 obtain⟨⟨n1,_⟩,n3⟩:=A.nodes hfr hL
 have hp:=hL.pos
 have hb:=A.begin hfr hL
 have q1:=(A.path (l:=l) (xs:=xs) n1 n3 pre.length).1
 rw[A.posL hfr hL (by omega),hb]at q1
 have q2:=(A.path (l:=l) (xs:=xs) n1 n3 (pre.length+lp.length)).1
 rw[A.posE hfr hL,hb]at q2
 have p1:=(j0y A.hn A.wp pre.length).2
 have p2:=(j0y A.hn A.wp (pre.length+lp.length)).2
 have hle:w0.length<=pre.length:=by
  by_cases h:pre.length<w0.length
  ·rw[if_pos h]at p1;omega
  ·omega
 rw[if_neg (by omega),<-q1]at p1
 rw[if_neg (by omega),<-q2]at p2
 have m1:(pre.length - w0.length) % w1.length=0:=by omega
 have m2:(pre.length+lp.length - w0.length) % w1.length=0:=by omega
 refine⟨hle,m1, ?_⟩
 have d1:=Nat.dvd_of_mod_eq_zero m1
 have d2:=Nat.dvd_of_mod_eq_zero m2
 rw[show pre.length+lp.length - w0.length=(pre.length - w0.length)+lp.length by omega]at d2
 exact Nat.mod_eq_zero_of_dvd ((Nat.dvd_add_right d1).1 d2)
end
theorem w1s{a:Int}{all:List Int}{z:Int×Int}: ∀(d k:Nat),(∀j,k<=j->j<k+d->btw (at0 all j) 0 (a - 1)=true)->pSt a all z d k=z
 | 0,k,_=>rfl
 |d+1,k,h=>by
  simp only[pSt,h k (nR k) (by omega),iT]
  exact w1s d (k+1) fun j h1 h2=>h j (by omega) (by omega)
theorem w1t{es:List E4}{all:List Int}{m:Nat}{w0 w1:List Int}{z:Int×Int}: ∀(d k:Nat),(∀j,k<=j->j<k+d->goE es all m w0 w1 j=true)->pEd es all m w0 w1 z d k=z
 | 0,k,_=>rfl
 |d+1,k,h=>by
  simp only[pEd,h k (nR k) (by omega),iT]
  exact w1t d (k+1) fun j h1 h2=>h j (by omega) (by omega)
theorem w1u{xs:List (Bool×List Int)}{r1:List Int}: ∀(d k:Nat),(∀j,k<=j->j<k+d->acc xs r1 j=true)->pAc xs r1 d k=(0,0)
 | 0,k,_=>rfl
 |d+1,k,h=>by
  simp only[pAc,h k (nR k) (by omega),iT]
  exact w1u d (k+1) fun j h1 h2=>h j (by omega) (by omega)
def stOf(a:Nat)(l:List Nat):List Int:=natI (l.map (· % a))
theorem q0U(a:Nat)(l:List Nat):(stOf a l).length=l.length:=by simp[stOf,natI]
section
variable{a n:Nat}{l:List Int}{es:List E4}{xs:List (Bool×List Int)}{w0 w1:List Int}(A:PW a l es xs w0 w1 n)
variable{from':List Nat}(hfr: ∀s:Nat,s∈from'->(s:Int)∈l){pre lp:List Nat}(hL:LassoR (nxL (rowsQ a n es w0 w1)) (n*a) (· ∈from') (fun v=>decide (v / a=w0.length)) (setsQ a (n*a) xs) pre lp)
include A hfr hL
theorem PW.chk0(h1:aErr (a:Int) l es xs=0)(h2:wErr w0 w1=0)(h3:pre.length+lp.length<=20000):(chk (a:Int) l es xs w0 w1 (stOf a pre) (stOf a lp)).2=0:=by
 obtain⟨⟨n1,n2⟩,n3⟩:=A.nodes hfr hL
 have hp:=hL.pos
 have ha0:0<a:=by omega
 obtain⟨s1,s2,s3⟩:=A.shape hfr hL
 have hsh:shapeBad w0 w1 (stOf a pre) (stOf a lp)=false:=by
  unfold shapeBad
  rw[q0U,q0U]
  simp only[dN]
  omega
 have hlen:(stOf a pre++stOf a lp).length=pre.length+lp.length:=by rw[List.length_append,q0U,q0U]
 have hat: ∀j,j<pre.length+lp.length->at0 (stOf a pre++stOf a lp) j=((stL pre lp j % a:Nat):Int):=fun j hj=>by
  refine q1d ?_
  have e:stOf a pre++stOf a lp=((pre++lp).map fun x=>((x % a:Nat):Int)):=by
   unfold stOf natI
   rw[List.map_map,List.map_map,List.map_append];rfl
  rw[e,List.getElem?_map,w0N hj];rfl
 have hmod: ∀j,((stL pre lp j % a:Nat):Int)<a:=fun j=>by have:=Nat.mod_lt (stL pre lp j) ha0;omega
 have hE: ∀j,0<=j->j<0+(pre.length+lp.length)->goE es (stOf a pre++stOf a lp) pre.length w0 w1 j=true:=fun j _ hj=>by
  have hj':j<pre.length+lp.length:=by omega
  obtain⟨q1,q2,e,he,q3,q4,q5⟩:=A.path (l:=l) (xs:=xs) n1 n3 j
  have hw:((wrd w0 w1 j:Nat):Int)=letr w0 w1 j:=A.let0 j
  rw[hw]at q5
  rw[A.posL hfr hL hj']at q3
  unfold goE
  rw[hlen,hat j hj',List.any_eq_true]
  refine⟨e,he, ?_⟩
  have hnext:e.t=at0 (stOf a pre++stOf a lp) (if j+1<pre.length+lp.length then j+1 else pre.length):=by
   by_cases hlt:j+1<pre.length+lp.length
   ·rw[if_pos hlt,hat _ hlt,q4,A.posL hfr hL hlt]
   ·rw[if_neg hlt,hat _ (by omega),q4,show j+1=pre.length+lp.length by omega,A.posE hfr hL]
  unfold edge
  rw[q3,<-hnext,q5];simp
 have hB: ∀j,0<=j->j<0+(pre.length+lp.length)->btw (at0 (stOf a pre++stOf a lp) j) 0 ((a:Int) - 1)=true:=fun j _ hj=>by
  rw[hat j (by omega)]
  have:=hmod j
  simp only[btw,dE];omega
 have hA: ∀j,0<=j->j<0+xs.length->acc xs (stOf a lp) j=true:=fun j _ hj=>by
  have hsl:(setsQ a (n*a) xs).length=xs.length:=by simp[setsQ]
  obtain⟨t,t1,t2⟩:=hL.meets j (by omega)
  unfold acc
  rw[List.any_eq_true]
  refine⟨((t % a:Nat):Int),List.mem_map.2 ⟨t % a,List.mem_map.2 ⟨t,t1,rfl⟩,rfl⟩, ?_⟩
  unfold setsQ at t2
  rw[lG,List.getElem?_map,q0a (show j<xs.length by omega)]at t2
  rw[lG,q0a (show j<xs.length by omega)]
  simpa using(inB_setQ.1 t2).2
 have h0:at0 (stOf a pre++stOf a lp) 0∈l:=by
  rw[hat 0 (by omega)]
  have e:rhoL pre lp (List.replicate pre.length 0) 0=stL pre lp 0:=rfl
  rw[e]at n1 n2
  rw[Nat.mod_eq_of_lt n1];exact n2
 unfold chk
 rw[if_pos h1,if_pos h2,if_neg (by rw[q0U];omega),if_neg (by rw[q0U,q0U];omega),if_neg (by rw[hsh];simp),q0U,q0U,w1s _ 0 hB,if_pos h0,w1t _ 0 hE,w1u _ 0 hA]
end
theorem Z1w{M:Mach}{b N a k:Nat}{H0:Heap}{j z:Nat}{x1 x2 x3 x4:C}{r:List C}(hj:j<b)(hg:H0.get j=some (.cells z (.int .i64 (a:Int)::x1::x2::x3::x4:: .int .i64 (k:Int)::r)))(ha:N=0\/0<a)(hN:N<=1000000):PredC M b H0 (.func 87 [] [.ptr j 0]) N (fun v=>decide (v / a=k)):=by
 refine⟨_,rfl,fun H f v hv=> ?_⟩
 have e:H.get j=some (.cells z (.int .i64 (a:Int)::x1::x2::x3::x4:: .int .i64 (k:Int)::r)):=by rw[f.old j hj];exact hg
 have l0:Heap.ld H j 0=some (.int .i64 (a:Int)):=by rw[q0c e];rfl
 have l5:Heap.ld H j (0+5)=some (.int .i64 (k:Int)):=by rw[q0c e];rfl
 have hd:Int.tdiv (v:Int) (a:Int)=((v / a:Nat):Int):=by rw[Int.tdiv_eq_ediv_of_nonneg (by omega)];simp
 have hle:((v / a:Nat):Int)<=(v:Int):=Int.ofNat_le.2 (Nat.div_le_self v a)
 have hge:(0:Int)<=((v / a:Nat):Int):=Int.natCast_nonneg _
 have hw:IntKind.wrap .i64 ((v / a:Nat):Int)=((v / a:Nat):Int):=q0e (by omega) (by omega)
 have hdd:decide (((v / a:Nat):Int)=(k:Int))=decide (v / a=k):=by rw[decide_eq_decide];omega
 have:f87 M (v:Int) (.ptr j 0) H=some (.c (.bool (decide (v / a=k))),H):=by
  rw[Z1p]
  simp only[asP_ptr,oS,l0,asI_int,show¬((a:Int)=0) by omega,iF,l5,hd,hw,hdd]
 exact this
section
variable{M:Mach}{H:Heap}{a j z:Nat}{r:List C}{c:C}{l:List Nat}(hl:M.lim<=H.next)(hj:j<H.next)(hg:H.get j=some (.cells z (.int .i64 (a:Int)::r)))(hs:RdI H.next H c (natI l))(ha:0<a\/l=[])(hn:l.length<=1000000)
include hl hj hg hs ha hn
theorem Y0S: ∀(d i:Nat) (H1:Heap) (o:C),i+d=l.length->FrB H.next H H1->OInts H1 H.next o (stOf a (l.take i))-> ∃H' c',f88_1 M (.ptr j 0) o c (l.length:Int) (i:Int) H1=some (.c c',H')/\FrB H.next H H'/\OInts H' H.next c' (stOf a l):=by
 intro d
 induction d with
 |zero=>
  intro i H1 o hi f ho
  rw[List.take_of_length_le (by omega)]at ho
  refine⟨H1,o, ?_,f,ho⟩
  rw[W0D]
  simp only[show¬((i:Int)<(l.length:Int)) by omega,dF,bF,iF]
 |succ d ih=>
  intro i H1 o hi f ho
  have hlt:i<l.length:=by omega
  have hgi:l[i]? =some l[i]:=q0a hlt
  have ha':0<a:=ha.resolve_right fun e=>by rw[e]at hlt;simp at hlt
  obtain⟨⟨i1,o1⟩,r1,r2⟩:=hs.2 H1 f i _ (w0t hgi)
  have e:H1.get j=some (.cells z (.int .i64 (a:Int)::r)):=by rw[f.old j hj];exact hg
  have l0:Heap.ld H1 j 0=some (.int .i64 (a:Int)):=by rw[q0c e];rfl
  have hlen:=q0U a (l.take i)
  obtain⟨a1,c',H2,a2,a3,a4,a5⟩:=ho.append1 (lim:=M.lim) hl ((l[i] % a:Nat):Int) (by rw[hlen,List.length_take];omega)
  have f2:FrB H.next H H2:=⟨nT f.next a4.next,fun x hx=>by
   rw[a4.keep x (by have:=f.next;omega) fun o' m ee=>by
    rcases ho.2.2 with⟨e',_⟩ |⟨i',o'',cs',e',h2,_⟩
    ·rw[ee]at e';cases e'
    ·rw[ee]at e';cases e';omega]
   exact f.old x hx⟩
  have htk:stOf a (l.take (i+1))=stOf a (l.take i)++[((l[i] % a:Nat):Int)]:=by
   rw[List.take_succ,hgi]
   unfold stOf natI
   rw[List.map_append,List.map_append];rfl
  obtain⟨H',c'',z1,z2⟩:=ih (i+1) H2 c' (by omega) f2 (by rw[htk];exact a3)
  refine⟨H',c'', ?_,z2⟩
  rw[W0D]
  simp only[show((i:Int)<(l.length:Int)) by omega,dY,iT,r1,r2,oS,asI_int,asP_ptr,l0,show¬((a:Int)=0) by omega,iF,z0E,a1,a2,q0b (show i<=1000000000 by omega),z1]
theorem Q0Z: ∃H' c',f88 M c (.ptr j 0) H=some (.c c',H')/\Grow H H'/\OInts H' H.next c' (stOf a l):=by
 obtain⟨H',c',z1,z2,z3⟩:=Y0S hl hj hg hs ha hn l.length 0 H .nilSlice (by omega) ⟨nR _,fun _ _=>rfl⟩ (Own.nil (nR _) 1)
 refine⟨H',c', ?_,⟨z2.next,z2.old⟩,z3⟩
 have hlen:C.len c=some l.length:=by have:=hs.1;rwa [q0p]at this
 rw[Z1q]
 simp only[hlen,oS]
 exact z1
end
section
variable{lim:Nat}{M:YM}(hM:CallsY lim M.ext){H:Heap}{F:Nat->Prop}{a n:Nat}{l:List Int}{es:List E4}{xs:List (Bool×List Int)}{w0 w1:List Int}{b1 bb:Bool}{c1 c2 c3 cl cs:C}{j:Nat}
variable(A:PW a l es xs w0 w1 n)(hl:lim<=H.next)(hF: ∀i,F i->i<H.next)(ug:UC H F (uLs true (rowsQ a n es w0 w1)) [.slice j 0 (n*a)])(us:UC H F (.sl bb ((setsQ a (n*a) xs).map setU)) [cs])(u1:UC H F (uIs b1 l) [c1])(hll:l.length<=1000000)(hx:xs.length<=8)
include hM A hl hF ug us u1 hll hx
theorem Q1f: ∃(found:Bool) (c14 c16:C) (H':Heap),f47 (MH lim) (a:Int) c1 c2 c3 cl (w0.length:Int) (.slice j 0 (n*a)) c1 cs H=some (.tuple [.agg [c14,c16], .c (.bool found)],H')/\Grow H H'/\
  (
   (found=true/\ ∃pre lp,LassoR (nxL (rowsQ a n es w0 w1)) (n*a) (· ∈l.map Int.toNat) (fun v=>decide (v / a=w0.length)) (setsQ a (n*a) xs) pre lp/\OInts H' H.next c14 (stOf a pre)/\OInts H' H.next c16 (stOf a lp))\/
   (found=false/\NoLasso (nxL (rowsQ a n es w0 w1)) (· ∈l.map Int.toNat) (fun v=>decide (v / a=w0.length)) (setsQ a (n*a) xs))):=by
 have ha:=A.ha;have hwn:=A.wn
 have hNb:n*a<=60*300:=Nat.mul_le_mul hwn ha
 have hN0:n*a=0\/0<a:=by
  by_cases h:a=0
  ·exact .inl (by rw[h,Nat.mul_zero])
  ·exact .inr (by omega)
 have hsl:(setsQ a (n*a) xs).length=xs.length:=by simp[setsQ]
 have hsn: ∀z∈setsQ a (n*a) xs,z.length=n*a:=fun z hz=>by obtain⟨x,_,rfl⟩:=List.mem_map.1 hz;simp
 have g1:(H.alloc (.cells 9 [.int .i64 (a:Int),c1,c2,c3,cl, .int .i64 (w0.length:Int), .slice j 0 (n*a),c1,cs])).get H.next=some (.cells 9 [.int .i64 (a:Int),c1,c2,c3,cl, .int .i64 (w0.length:Int), .slice j 0 (n*a),c1,cs]):=alloc_new _ _
 have gr1:Grow H (H.alloc (.cells 9 [.int .i64 (a:Int),c1,c2,c3,cl, .int .i64 (w0.length:Int), .slice j 0 (n*a),c1,cs])):= .alloc H _
 generalize hH1:H.alloc (.cells 9 [.int .i64 (a:Int),c1,c2,c3,cl, .int .i64 (w0.length:Int), .slice j 0 (n*a),c1,cs])=H1 at g1 gr1
 have n1:H1.next=H.next+1:=by rw[<-hH1];rfl
 have hF1: ∀i,F i->i<H1.next:=fun i hi=>by have:=hF i hi;omega
 have m1:FLe H F H1 F:=⟨fun _ h=>h,fun i hi=>gr1.keep i (hF i hi)⟩
 have hnn:natI (l.map Int.toNat)=l:=X0R fun x hx=>(A.hls x hx).1
 have hrd:RdI H1.next H1 c1 (natI (l.map Int.toNat)):=by rw[hnn];exact RdI.of_uc (u1.mono m1) hF1
 have hfn: ∀s∈l.map Int.toNat,s<n*a:=fun s hs=>by
  obtain⟨x,hx,rfl⟩:=List.mem_map.1 hs
  have:=A.hls x hx
  have hw:=A.wp;have hn:=A.hn
  have:a<=n*a:=Nat.le_mul_of_pos_left _ (by omega)
  omega
 have l6:Heap.ld H1 H.next 6=some (.slice j 0 (n*a)):=by rw[q0c g1];rfl
 have l7:Heap.ld H1 H.next 7=some c1:=by rw[q0c g1];rfl
 have l8:Heap.ld H1 H.next 8=some cs:=by rw[q0c g1];rfl
 rcases J1j hM (H:=H1) (by omega) hF1 (ug.mono m1) A.tab (by omega) (us.mono m1) hsn (by omega) hrd (by rw[List.length_map];exact hll) hfn (Z1w (M:=MH lim) (by omega:H.next<H1.next) g1 hN0 (by omega))with⟨H2,c7,c9,pre,lp,q1,q2,q3,q4,q5⟩ |⟨H2,q1,q2,q3⟩
 ·have n2:=q2.next
  have hp:=q5.pos
  obtain⟨g,gh,gm,gl,gc⟩:=q5.lead
  have hcb:=W0Z (setsQ a (n*a) xs) g (setsQ a (n*a) xs).length
  have hcm:=Nat.mul_le_mul_left (n*a) (show cnt (setsQ a (n*a) xs) g (setsQ a (n*a) xs).length<=8 by omega)
  have hpl:=q5.plen
  have ha0:0<a:=by
   rcases hN0 with h |h
   ·have:=q5.stlt (p:=0) (by omega);omega
   ·exact h
  have g2:H2.get H.next=some (.cells 9 [.int .i64 (a:Int),c1,c2,c3,cl, .int .i64 (w0.length:Int), .slice j 0 (n*a),c1,cs]):=by rw[q2.keep _ (by omega)];exact g1
  obtain⟨H3,c14,r1,r2,r3⟩:=Q0Z (M:=MH lim) (H:=H2) (show lim<=H2.next by omega) (by omega) g2 (RdI.of_ints q3.ints (w0r q3)) (.inl ha0) (by omega)
  have n3:=r2.next
  have g3:H3.get H.next=some (.cells 9 [.int .i64 (a:Int),c1,c2,c3,cl, .int .i64 (w0.length:Int), .slice j 0 (n*a),c1,cs]):=by rw[r2.keep _ (by omega)];exact g2
  have q4':=j0x q4 r2
  obtain⟨H4,c16,t1,t2,t3⟩:=Q0Z (M:=MH lim) (H:=H3) (show lim<=H3.next by omega) (by omega) g3 (RdI.of_ints q4'.ints (w0r q4')) (.inl ha0) (by omega)
  refine⟨true,c14,c16,H4, ?_,gr1.trans (q2.trans (r2.trans t2)), .inl ⟨rfl,pre,lp,q5,Own.low (j0x r3 t2) (by omega),Own.low t3 (by omega)⟩⟩
  rw[w1d]
  simp only[hH1,l6,l7,l8,oS,q1,ext_tuple,List.getElem?_cons_zero,List.getElem?_cons_succ,asC_c,asB_bool,r1,t1]
 ·have n2:=q2.next
  have nil: ∀Hx:Heap,RdI Hx.next Hx .nilSlice (natI []):=fun Hx=>⟨rfl,fun X _ j v hj=>by simp[natI]at hj⟩
  have g2:H2.get H.next=some (.cells 9 [.int .i64 (a:Int),c1,c2,c3,cl, .int .i64 (w0.length:Int), .slice j 0 (n*a),c1,cs]):=by rw[q2.keep _ (by omega)];exact g1
  obtain⟨H3,c14,r1,r2,r3⟩:=Q0Z (M:=MH lim) (H:=H2) (show lim<=H2.next by omega) (by omega) g2 (nil H2) (.inr rfl) (by simp)
  have n3:=r2.next
  have g3:H3.get H.next=some (.cells 9 [.int .i64 (a:Int),c1,c2,c3,cl, .int .i64 (w0.length:Int), .slice j 0 (n*a),c1,cs]):=by rw[r2.keep _ (by omega)];exact g2
  obtain⟨H4,c16,t1,t2,t3⟩:=Q0Z (M:=MH lim) (H:=H3) (show lim<=H3.next by omega) (by omega) g3 (nil H3) (.inr rfl) (by simp)
  refine⟨false,c14,c16,H4, ?_,gr1.trans (q2.trans (r2.trans t2)), .inr ⟨rfl,q3⟩⟩
  rw[w1d]
  simp only[hH1,l6,l7,l8,oS,q1,ext_tuple,List.getElem?_cons_zero,List.getElem?_cons_succ,asC_c,asB_bool,r1,t1]
end
section
variable{lim:Nat}{M:YM}(hM:CallsY lim M.ext){H:Heap}{F:Nat->Prop}{a:Nat}{b1 b2 b3 b4 b5:Bool}{l:List Int}{es:List E4}{xs:List (Bool×List Int)}{w0 w1:List Int}{c1 c2 c3 d0 d1:C}
variable(A:AW lim H F H.next a l es xs w0 w1 b1 b2 b3 b4 b5 c1 c2 c3 d0 d1)
include A
theorem AW.pw:PW a l es xs w0 w1 (w0.length+w1.length):=⟨rfl,A.ha,A.he,A.ok,A.wp,A.wl,A.wn,A.hls.2⟩
include hM
theorem W0L: ∃(cl cs:C) (j:Nat) (H1 H2:Heap) (found:Bool) (c14 c16:C),f46 (MH lim) (a:Int) c1 c2 c3 d0 d1 H=some (.agg [.int .i64 (a:Int),c1,c2,c3,cl, .int .i64 (w0.length:Int), .slice j 0 ((w0.length+w1.length)*a),c1,cs],H1)/\
  f47 (MH lim) (a:Int) c1 c2 c3 cl (w0.length:Int) (.slice j 0 ((w0.length+w1.length)*a)) c1 cs H1=some (.tuple [.agg [c14,c16], .c (.bool found)],H2)/\Grow H H2/\(found=true↔Acc (auL l es xs) (wrd w0 w1))/\
  (found=true-> ∃pre lp,OInts H2 H.next c14 (stOf a pre)/\OInts H2 H.next c16 (stOf a lp)/\pre.length+lp.length<=(w0.length+w1.length)*a*10/\(aErr (a:Int) l es xs=0->wErr w0 w1=0->pre.length+lp.length<=20000->(chk (a:Int) l es xs w0 w1 (stOf a pre) (stOf a lp)).2=0)):=by
 have P:=A.pw
 have hx8:=A.hx;have hlim:=A.hl
 obtain⟨cl,cs,j,H1,bb,p1,p2,p3,p4⟩:=Q1K hM A rfl
 have n1:=p2.next
 have hF1: ∀i,(F i\/(H.next<=i/\i<H1.next))->i<H1.next:=fun i hi=>hi.elim (fun h=>by have:=A.hF i h;omega) (·.2)
 have u1:UC H1 (fun i=>F i\/(H.next<=i/\i<H1.next)) (uIs b1 l) [c1]:=A.u1.mono ⟨fun i h=> .inl h,fun i hi=>p2.keep i (A.hF i hi)⟩
 obtain⟨found,c14,c16,H2,q1,q2,q3⟩:=Q1f hM P (c2:=c2) (c3:=c3) (cl:=cl) (by omega) hF1 p3 p4 u1 A.hls.1 hx8
 have hfr1: ∀s:Nat,(s:Int)∈l->s∈l.map Int.toNat:=fun s hs=>List.mem_map.2 ⟨_,hs,by simp⟩
 have hfr2: ∀s:Nat,s∈l.map Int.toNat->(s:Int)∈l:=fun s hs=>by
  obtain⟨x,hx,e⟩:=List.mem_map.1 hs
  have:=(A.hls.2 x hx).1
  rw[show(s:Int)=x by omega];exact hx
 refine⟨cl,cs,j,H1,H2,found,c14,c16,p1,q1,p2.trans q2, ?_, ?_⟩
 ·rcases q3 with⟨e,pre,lp,h1,_⟩ |⟨e,h1⟩
  ·exact⟨fun _=>P.accepts hfr2 h1,fun _=>e⟩
  ·rw[e]
   exact⟨fun h=>(by cases h),fun h=>absurd h (P.noAcc hfr1 h1)⟩
 ·intro hf
  rcases q3 with⟨e,pre,lp,h1,h2,h3⟩ |⟨e,h1⟩
  ·refine⟨pre,lp,Own.low h2 (by omega),Own.low h3 (by omega), ?_,fun k1 k2 k3=>P.chk0 hfr2 h1 k1 k2 k3⟩
   obtain⟨g,gh,gm,gl,gc⟩:=h1.lead
   have hsl:(setsQ a ((w0.length+w1.length)*a) xs).length=xs.length:=by simp[setsQ]
   have hcb:=W0Z (setsQ a ((w0.length+w1.length)*a) xs) g (setsQ a ((w0.length+w1.length)*a) xs).length
   have hcm:=Nat.mul_le_mul_left ((w0.length+w1.length)*a) (show cnt (setsQ a ((w0.length+w1.length)*a) xs) g (setsQ a ((w0.length+w1.length)*a) xs).length<=8 by omega)
   have hpl:=h1.plen
   omega
  ·rw[e]at hf;cases hf
end
def eErr(a:Int)(l:List Int)(es:List E4)(xs:List (Bool×List Int))(w0 w1:List Int):Int:=if aErr a l es xs=0 then wErr w0 w1 else aErr a l es xs
theorem eErr_zero{a:Int}{l:List Int}{es:List E4}{xs:List (Bool×List Int)}{w0 w1:List Int}:eErr a l es xs w0 w1=0↔aErr a l es xs=0/\wErr w0 w1=0:=by
 unfold eErr
 by_cases h:aErr a l es xs=0
 ·rw[if_pos h];exact⟨fun g=>⟨h,g⟩,fun g=>g.2⟩
 ·rw[if_neg h];exact⟨fun g=>absurd g h,fun g=>absurd g.1 h⟩
theorem k1f:y8 MA=some (.val (.c (.bool true))):=by
 unfold y8 yrunM
 rw[K0o]
 kernel_rfl
theorem Q1C{M:YM}{b b':Bool}:y21 M (uIs b []) (uIs b' []) (uIs false []) (uIs false [])=some (.val (.c (.bool true))):=by
 rw[J1y]
 simp only[Q1g,oS,toU_val,asB_c,iT]
structure AX (lim:Nat) (H:Heap) (F:Nat->Prop) (l:List Int) (es:List E4) (xs:List (Bool×List Int)) (w0 w1:List Int) (b1 b2 b3 b4 b5:Bool) (c1 c2 c3 d0 d1:C):Prop where
 hl:lim<=H.next
 hF: ∀i,F i->i<H.next
 u1:UC H F (uIs b1 l) [c1]
 u2:UC H F (uEs b2 es) [c2]
 u3:UC H F (uLs b3 xs) [c3]
 v0:UC H F (uIs b4 w0) [d0]
 v1:UC H F (uIs b5 w1) [d1]
 hll:l.length<=1000000
 he:es.length<=1000000
 hx:xs.length<=1000000
 hxs: ∀x∈xs,x.2.length<=1000000
 hw:w0.length+w1.length<=1000000
theorem W0U{H H':Heap}{F:Nat->Prop}(g:Grow H H')(hF: ∀i,F i->i<H.next):FrX none H F H' F:=
 ⟨g.next,fun i hi _=>g.keep i hi,fun _ h=>h,fun _ h=> .inl h,fun i hi=>nL (hF i hi) g.next⟩
section
variable{lim:Nat}{H:Heap}{F:Nat->Prop}{a:Int}{b1 b2 b3 b4 b5:Bool}{l:List Int}{es:List E4}{xs:List (Bool×List Int)}{w0 w1:List Int}{c1 c2 c3 d0 d1:C}
theorem AX.on(A:AX lim H F l es xs w0 w1 b1 b2 b3 b4 b5 c1 c2 c3 d0 d1){H':Heap}{F':Nat->Prop}(m:FrX none H F H' F'):AX lim H' F' l es xs w0 w1 b1 b2 b3 b4 b5 c1 c2 c3 d0 d1:=
 have e:=m.le0 A.hF
 ⟨nT A.hl m.next,m.lt,A.u1.mono e,A.u2.mono e,A.u3.mono e,A.v0.mono e,A.v1.mono e,A.hll,A.he,A.hx,A.hxs,A.hw⟩
variable(A:AX lim H F l es xs w0 w1 b1 b2 b3 b4 b5 c1 c2 c3 d0 d1)
include A
theorem AX.auto:UV H F (.st [uI a,uIs b1 l,uEs b2 es,uLs b3 xs]) (.agg [.int .i64 a,c1,c2,c3]):=
 ⟨_,rfl,_,_,rfl,rfl,⟨rfl,rfl⟩,_,_,rfl,rfl,A.u1,_,_,rfl,rfl,A.u2,_,_,rfl,rfl,A.u3,rfl⟩
theorem AX.word:UV H F (.st [uIs b4 w0,uIs b5 w1]) (.agg [d0,d1]):=k0R A.v0 A.v1
theorem AX.aw(h:eErr a l es xs w0 w1=0): ∃n:Nat,a=n/\AW lim H F H.next n l es xs w0 w1 b1 b2 b3 b4 b5 c1 c2 c3 d0 d1:=by
 obtain⟨h1,h2⟩:=eErr_zero.1 h
 obtain⟨s1,s2,s3,s4,s5,s6⟩:=aErr_zero.1 h1
 obtain⟨k1,k2,k3⟩:=q1A h2
 simp only[btw,dE]at s1
 obtain⟨n,rfl⟩:=iZ s1.1
 exact⟨n,rfl,A.hl,A.hF,by omega,s2,s3,s4,k1,k2,k3,A.u1,A.u2,A.u3,A.v0,A.v1,⟨A.hll,(sErr_zero.1 s5).1⟩,fun x hx'=>⟨A.hxs x hx',(sErr_zero.1 (s6 x hx')).1⟩⟩
theorem q1r: ∃H' F',f45 (MH lim) a c1 c2 c3 d0 d1 H=some (.c (.int .i64 (eErr a l es xs w0 w1)),H')/\FrX none H F H' F':=by
 obtain⟨v,H1,F1,m1,m2,m3⟩:=z0X (j0v lim:CallsY lim MA.ext) (f:=45) (us:=[.st [uI a,uIs b1 l,uEs b2 es,uLs b3 xs], .st [uIs b4 w0,uIs b5 w1]]) (K1b (M:=MA) (a:=a) (b1:=b1) (b2:=b2) (b3:=b3) (b4:=b4) (b5:=b5) A.hll A.he A.hx A.hxs A.hw) rfl A.hl A.hF (w1q A.auto A.word)
 have:=m3.int
 subst this
 exact⟨H1,F1,m1,m2⟩
theorem Q1D: ∃(b:Bool) (H':Heap) (F':Nat->Prop),f18 (MH lim) a c1 c2 c3 d0 d1 H=some (.tuple [.c (.bool b), .c (.int .i64 (eErr a l es xs w0 w1))],H')/\FrX none H F H' F'/\
  (eErr a l es xs w0 w1≠0->b=false)/\(eErr a l es xs w0 w1=0->(b=true↔Acc (auL l es xs) (wrd w0 w1))):=by
 obtain⟨H1,F1,q1,q2⟩:=q1r (a:=a) A
 by_cases h:eErr a l es xs w0 w1=0
 ·obtain⟨n,rfl,W⟩:=(A.on q2).aw h
  obtain⟨cl,cs,j,H2,H3,found,c14,c16,p1,p2,p3,p4,_⟩:=W0L (M:=MA) (j0v lim) W
  refine⟨found,H3,F1, ?_,q2.trans (W0U p3 q2.lt),fun e=>absurd h e,fun _=>p4⟩
  rw[w1c]
  simp only[q1,oS,asC_c,asI_int,h,dY,Bool.not_true,bF,iF,p1,asA_agg,headC_cons,List.drop_succ_cons,List.drop_zero,List.length_nil,iT,p2,ext_tuple,List.getElem?_cons_zero,List.getElem?_cons_succ,asB_bool]
 ·refine⟨false,H1,F1, ?_,q2,fun _=>rfl,fun e=>absurd e h⟩
  rw[w1c]
  simp only[q1,oS,asC_c,asI_int,h,dF,Bool.not_false,iT]
theorem Q1E: ∃(k0 k1:C) (e:Int) (g0 g1:Bool) (r0 r1:List Int) (H':Heap) (F':Nat->Prop),f20 (MH lim) a c1 c2 c3 d0 d1 H=some (.tuple [.agg [k0,k1], .c (.int .i64 e)],H')/\FrX none H F H' F'/\UC H' F' (uIs g0 r0) [k0]/\UC H' F' (uIs g1 r1) [k1]/\
  (eErr a l es xs w0 w1≠0->e=eErr a l es xs w0 w1/\r0=[]/\r1=[])/\
  (eErr a l es xs w0 w1=0->(¬Acc (auL l es xs) (wrd w0 w1)/\e=25/\r0=[]/\r1=[])\/(Acc (auL l es xs) (wrd w0 w1)/\e=0/\(a<=30->w0.length+w1.length<=12->r0.length+r1.length<=20000/\(chk a l es xs w0 w1 r0 r1).2=0))):=by
 obtain⟨H1,F1,q1,q2⟩:=q1r (a:=a) A
 have nil: ∀(Hx:Heap) (Fx:Nat->Prop),UC Hx Fx (uIs false []) [.nilSlice]:=fun _ _=> .inl ⟨rfl,rfl,rfl⟩
 by_cases h:eErr a l es xs w0 w1=0
 ·obtain⟨n,rfl,W⟩:=(A.on q2).aw h
  obtain⟨cl,cs,j,H2,H3,found,c14,c16,p1,p2,p3,p4,p5⟩:=W0L (M:=MA) (j0v lim) W
  cases hfd:found with
  |false=>
   subst hfd
   refine⟨.nilSlice, .nilSlice,25,false,false,[],[],H3,F1, ?_,q2.trans (W0U p3 q2.lt),nil _ _,nil _ _,fun e=>absurd h e,fun _=> .inl ⟨fun g=>(by have:=p4.2 g;cases this),rfl,rfl,rfl⟩⟩
   rw[Y0O]
   simp only[q1,oS,asC_c,asI_int,h,dY,Bool.not_true,bF,iF,p1,asA_agg,headC_cons,List.drop_succ_cons,List.drop_zero,List.length_nil,iT,p2,ext_tuple,List.getElem?_cons_zero,List.getElem?_cons_succ,asB_bool,Bool.not_false]
  |true=>
   subst hfd
   obtain⟨pre,lp,o1,o2,o3,o4⟩:=p5 rfl
   have fr:FrX none H1 F1 H3 (fun i=>F1 i\/(H1.next<=i/\i<H3.next)):=⟨p3.next,fun i hi _=>p3.keep i hi,fun i h=> .inl h,fun i h=>h.imp id (·.1),fun i h=>h.elim (fun h=>nL (q2.lt i h) p3.next) (·.2)⟩
   obtain⟨g0,u0,_⟩:=w1m (F:=fun i=>F1 i\/(H1.next<=i/\i<H3.next)) o1 fun i h1 h2=> .inr ⟨h1,h2⟩
   obtain⟨g1,u1,_⟩:=w1m (F:=fun i=>F1 i\/(H1.next<=i/\i<H3.next)) o2 fun i h1 h2=> .inr ⟨h1,h2⟩
   obtain⟨h1,h2⟩:=eErr_zero.1 h
   refine⟨c14,c16,0,g0,g1,stOf n pre,stOf n lp,H3,_, ?_,q2.trans fr,u0,u1,fun e=>absurd h e,fun _=> .inr ⟨p4.1 rfl,rfl,fun k1 k2=> ?_⟩⟩
   ·rw[Y0O]
    simp only[q1,oS,asC_c,asI_int,h,dY,Bool.not_true,bF,iF,p1,asA_agg,headC_cons,List.drop_succ_cons,List.drop_zero,List.length_nil,iT,p2,ext_tuple,List.getElem?_cons_zero,List.getElem?_cons_succ,asB_bool]
   ·have hm:(w0.length+w1.length)*n<=12*30:=Nat.mul_le_mul k2 (by omega)
    exact⟨by rw[q0U,q0U];omega,o4 h1 h2 (by omega)⟩
 ·refine⟨.nilSlice, .nilSlice,eErr a l es xs w0 w1,false,false,[],[],H1,F1, ?_,q2,nil _ _,nil _ _,fun _=>⟨rfl,rfl,rfl⟩,fun e=>absurd e h⟩
  rw[Y0O]
  simp only[q1,oS,asC_c,asI_int,h,dF,Bool.not_false,iT]
end
section
variable{lim:Nat}{H:Heap}{F:Nat->Prop}{a:Int}{b1 b2 b3 b4 b5:Bool}{l:List Int}{es:List E4}{xs:List (Bool×List Int)}{w0 w1:List Int}{c1 c2 c3 d0 d1:C}
variable(A:AX lim H F l es xs w0 w1 b1 b2 b3 b4 b5 c1 c2 c3 d0 d1)
include A
theorem q1s: ∃(a1 a2 a3:C) (bc:Bool) (H':Heap) (F':Nat->Prop),f11 (MH lim) a c1 c2 c3 H=some (.agg [.int .i64 a,a1,a2,a3],H')/\FrX none H F H' F'/\UC H' F' (uIs true l) [a1]/\UC H' F' (uEs true es) [a2]/\UC H' F' (uLs bc (cp xs)) [a3]:=by
 obtain⟨bc,h11⟩:=Z1h (M:=MA) (a:=a) (b1:=b1) (b2:=b2) (b3:=b3) (l:=l) (es:=es) (xs:=xs) A.hll A.he A.hx A.hxs
 obtain⟨v11,H3,F3,o1,o2,o3⟩:=z0X (j0v lim:CallsY lim MA.ext) (f:=11) (us:=[.st [uI a,uIs b1 l,uEs b2 es,uLs b3 xs]]) h11 rfl A.hl A.hF ⟨_,[],rfl,A.auto,rfl⟩
 obtain⟨a1,a2,a3,rfl,k1,k2,k3⟩:=X0L o3
 exact⟨a1,a2,a3,bc,H3,F3,o1,o2,k1,k2,k3⟩
theorem q1t: ∃(e0 e1:C) (H':Heap) (F':Nat->Prop),f19 (MH lim) d0 d1 H=some (.agg [e0,e1],H')/\FrX none H F H' F'/\UC H' F' (uIs true w0) [e0]/\UC H' F' (uIs true w1) [e1]:=by
 have hw:=A.hw
 obtain⟨v,H3,F3,o1,o2,o3⟩:=z0X (j0v lim:CallsY lim MA.ext) (f:=19) (us:=[.st [uIs b4 w0,uIs b5 w1]]) (Z1i (M:=MA) (b1:=b4) (b2:=b5) (l:=w0) (r:=w1) (by omega) (by omega)) rfl A.hl A.hF ⟨_,[],rfl,A.word,rfl⟩
 cases v with
 |c c=>exact absurd o3.1 (by simp[U.isSt])
 |tuple _=>exact o3.elim
 |agg ys=>
  obtain⟨us,e,hx⟩:=o3
  cases e
  obtain⟨e0,_,rfl,_,k0,e1,_,rfl,_,k1,rfl⟩:=hx
  exact⟨e0,e1,H3,F3,o1,o2,k0,k1⟩
theorem Q1F: ∃(H':Heap) (F':Nat->Prop),f12 (MH lim) a c1 c2 c3 H=some (.c (.int .i64 (aErr a l es xs)),H')/\FrX none H F H' F':=by
 obtain⟨v,H1,F1,m1,m2,m3⟩:=z0X (j0v lim:CallsY lim MA.ext) (f:=12) (us:=[.st [uI a,uIs b1 l,uEs b2 es,uLs b3 xs]]) (w1z (M:=MA) (a:=a) (b1:=b1) (b2:=b2) (b3:=b3) (l:=l) (es:=es) (xs:=xs) A.hll A.he A.hx A.hxs) rfl A.hl A.hF ⟨_,[],rfl,A.auto,rfl⟩
 have:=m3.int
 subst this
 exact⟨H1,F1,m1,m2⟩
theorem q1u: ∃(H':Heap) (F':Nat->Prop),f15 (MH lim) d0 d1 H=some (.c (.int .i64 (wErr w0 w1)),H')/\FrX none H F H' F':=by
 obtain⟨v,H1,F1,m1,m2,m3⟩:=z0X (j0v lim:CallsY lim MA.ext) (f:=15) (us:=[.st [uIs b4 w0,uIs b5 w1]]) (w1b (M:=MA) (b1:=b4) (b2:=b5) (l:=w0) (r:=w1) A.hw) rfl A.hl A.hF ⟨_,[],rfl,A.word,rfl⟩
 have:=m3.int
 subst this
 exact⟨H1,F1,m1,m2⟩
theorem W0V{is:Bool}{e f:Int}{k0 k1:C}{g0 g1:Bool}{r0 r1:List Int}(u0:UC H F (uIs g0 r0) [k0])(u1:UC H F (uIs g1 r1) [k1])(ha:eErr a l es xs w0 w1=0->a<=30/\w0.length+w1.length<=12)
  (h1:e=eErr a l es xs w0 w1) (h2:eErr a l es xs w0 w1≠0->is=false) (h3:eErr a l es xs w0 w1=0->(is=true↔Acc (auL l es xs) (wrd w0 w1)))
  (h4:eErr a l es xs w0 w1≠0->f=eErr a l es xs w0 w1/\r0=[]/\r1=[])
  (h5:eErr a l es xs w0 w1=0->(¬Acc (auL l es xs) (wrd w0 w1)/\f=25/\r0=[]/\r1=[])\/(Acc (auL l es xs) (wrd w0 w1)/\f=0/\(a<=30->w0.length+w1.length<=12->r0.length+r1.length<=20000/\(chk a l es xs w0 w1 r0 r1).2=0))):
  ∃H',f4_1 (MH lim) a c1 c2 c3 d0 d1 is e k0 k1 f (eErr a l es xs w0 w1) H=some (.c (.bool true),H'):=by
 have hM:CallsY lim MA.ext:=j0v lim
 have same: ∀(Hx:Heap) (Fx:Nat->Prop),lim<=Hx.next->(∀i,Fx i->i<Hx.next)->UC Hx Fx (uIs g0 r0) [k0]->UC Hx Fx (uIs g1 r1) [k1]->r0=[]->r1=[]-> ∃Hy,f21 (MH lim) k0 k1 .nilSlice .nilSlice Hx=some (.c (.bool true),Hy):=by
  intro Hx Fx hl hF s0 s1 e0 e1
  rw[e0]at s0
  rw[e1]at s1
  obtain⟨v,Hy,Fy,t1,t2,t3⟩:=z0X hM (f:=21) (us:=[.st [uIs g0 [],uIs g1 []], .st [uIs false [],uIs false []]]) (vs:=[.agg [k0,k1], .agg [.nilSlice, .nilSlice]]) (r:= .val (.c (.bool true))) (by
   show y21 MA (uIs g0 []) (uIs g1 []) (uIs false []) (uIs false [])=_
   exact Q1C) rfl hl hF (w1q (k0R s0 s1) (k0R (.inl ⟨rfl,rfl,rfl⟩) (.inl ⟨rfl,rfl,rfl⟩)))
  have:=t3.bool
  subst this
  exact⟨Hy,t1⟩
 by_cases h:eErr a l es xs w0 w1=0
 ·obtain⟨n,rfl,W⟩:=A.aw h
  obtain⟨r,H1,q1,q2,q3⟩:=Q1r hM K1m W
  have h3:=h3 h
  have hris:is=r:=by rw[Bool.eq_iff_iff,h3,q3]
  have e1:=q2.le0 A.hF
  rcases h5 h with⟨p1,p2,p3,p4⟩ |⟨p1,p2,p3⟩
  ·have hr:r=false:=by
    cases hr:r with
    |false=>rfl
    |true=>exact absurd (q3.1 hr) p1
   subst hr
   obtain⟨Hy,q21⟩:=same H1 F (nT A.hl q2.next) q2.lt (u0.mono e1) (u1.mono e1) p3 p4
   refine⟨Hy, ?_⟩
   rw[Z0Y]
   simp only[h,dY,Bool.not_true,bF,iF,q1,oS,asC_c,asB_bool,h1,hris,iT,beq_self_eq_true,bne_self_eq_false,Bool.not_false,p2,q21]
  ·have hr:r=true:=q3.2 p1
   subst hr
   obtain⟨ha1,ha2⟩:=ha h
   obtain⟨p4,p5⟩:=p3 ha1 ha2
   obtain⟨ws,H2,F2,t1,t2,t3⟩:=callT hM (f:=22) (us:=[.st [uI (n:Int),uIs b1 l,uEs b2 es,uLs b3 xs], .st [uIs b4 w0,uIs b5 w1], .st [uIs g0 r0,uIs g1 r1]]) (vs:=[.agg [.int .i64 (n:Int),c1,c2,c3], .agg [d0,d1], .agg [k0,k1]])
    (Z1P (M:=MA) (a:=(n:Int)) (b1:=b1) (b2:=b2) (b3:=b3) (b4:=b4) (b5:=b5) (b6:=g0) (b7:=g1) A.hll (by omega) A.he A.hx A.hxs A.hw) (m1:= .sc) (m2:= .sc) (by kernel_rfl) (nT A.hl q2.next) q2.lt ⟨_,_,rfl,(A.on q2).auto,_,_,rfl,(A.on q2).word,_,_,rfl,k0R (u0.mono e1) (u1.mono e1),rfl⟩
   obtain⟨v1,_,rfl,y1,v2,_,rfl,y2,rfl⟩:=t3
   have:=y1.int
   subst this
   have:=y2.int
   subst this
   have q22:f22 (MH lim) (n:Int) c1 c2 c3 d0 d1 k0 k1 H1=some (.tuple [.c (.int .i64 (chk (n:Int) l es xs w0 w1 r0 r1).1), .c (.int .i64 (chk (n:Int) l es xs w0 w1 r0 r1).2)],H2):=t1
   have l0:=J0i u0
   have l1:=J0i u1
   have wl:IntKind.wrap .i64 ((r0.length:Int)+(r1.length:Int))=((r0.length+r1.length:Nat):Int):=by rw[q0e (by omega) (by omega)];simp
   refine⟨H2, ?_⟩
   rw[Z0Y]
   simp only[h,dY,Bool.not_true,bF,iF,q1,oS,asC_c,asB_bool,h1,hris,iT,beq_self_eq_true,bne_self_eq_false,p2,l0,l1,wl,show¬((20000:Int)<((r0.length+r1.length:Nat):Int)) by omega,dF,q22,ext_tuple,List.getElem?_cons_zero,List.getElem?_cons_succ,asI_int,p5]
 ·obtain⟨p1,p2,p3⟩:=h4 h
  obtain⟨Hy,q21⟩:=same H F A.hl A.hF u0 u1 p2 p3
  refine⟨Hy, ?_⟩
  rw[Z0Y]
  simp only[h,dF,Bool.not_false,iT,h1,dY,h2 h,oS,p1,q21,asC_c,asB_bool]
end
theorem K1M{a:Int}{l:List Int}{es:List E4}{xs:List (Bool×List Int)}(h:few a l es xs=true)(h1:aErr a l es xs=0):a<=30:=by
 have:=(aErr_zero.1 h1).1
 unfold few at h
 simp only[btw,dE,bA,bN,Bool.and_eq_false_iff,dN]at this h
 omega
section
variable{H:Heap}{a:Int}{b1 b2 b3 b4 b5:Bool}{l:List Int}{es:List E4}{xs:List (Bool×List Int)}{w0 w1:List Int}{c1 c2 c3 d0 d1:C}
variable(u1:UC H (fun i=>i<H.next) (uIs b1 l) [c1])(u2:UC H (fun i=>i<H.next) (uEs b2 es) [c2])(u3:UC H (fun i=>i<H.next) (uLs b3 xs) [c3])(v0:UC H (fun i=>i<H.next) (uIs b4 w0) [d0])(v1:UC H (fun i=>i<H.next) (uIs b5 w1) [d1])
include u1 u2 u3 v0 v1
theorem Z1L: ∃H',f4 (MH H.next) a c1 c2 c3 d0 d1 H=some (.c (.bool true),H'):=by
 have hM:CallsY H.next MA.ext:=j0v H.next
 obtain⟨v8,H1,F1,m1,m2,m3⟩:=z0X hM (f:=8) (us:=[]) (vs:=[]) k1f rfl (nR _) (fun _ h=>h) rfl
 have:=m3.bool
 subst this
 have q8:f8 (MH H.next) H=some (.c (.bool true),H1):=m1
 have hl1:H.next<=H1.next:=m2.next
 have e1:=m2.le0 (fun _ h=>h)
 have hv1:UVs H1 F1 [.st [uI a,uIs b1 l,uEs b2 es,uLs b3 xs]] [.agg [.int .i64 a,c1,c2,c3]]:=⟨_,[],rfl,⟨_,rfl,_,_,rfl,rfl,⟨rfl,rfl⟩,_,_,rfl,rfl,u1.mono e1,_,_,rfl,rfl,u2.mono e1,_,_,rfl,rfl,u3.mono e1,rfl⟩,rfl⟩
 obtain⟨v9,H2,F2,n1,n2,n3⟩:=z0X hM (f:=9) (us:=[.st [uI a,uIs b1 l,uEs b2 es,uLs b3 xs]]) (K1L (M:=MA) (a:=a) (b1:=b1) (b2:=b2) (b3:=b3) (l:=l) (es:=es) (xs:=xs)) rfl hl1 m2.lt hv1
 have:=n3.bool
 subst this
 have q9:f9 (MH H.next) a c1 c2 c3 H1=some (.c (.bool (few a l es xs)),H2):=n1
 have r12:=m2.trans n2
 have e2:=r12.le0 (fun _ h=>h)
 cases hfew:few a l es xs with
 |false=>
  refine⟨H2, ?_⟩
  rw[Z0X]
  simp only[q8,oS,asC_c,asB_bool,Bool.not_true,bF,iF,q9,hfew,Bool.not_false,Bool.true_eq_false,iT]
 |true=>
  obtain⟨f1,f2,f3',f4⟩:=Q1h hfew
  have hxs: ∀x∈xs,x.2.length<=1000000:=fun x hx=>by have:=f4 x hx;omega
  obtain⟨v17,H3,F3,o1,o2,o3⟩:=z0X hM (f:=17) (us:=[.st [uIs b4 w0,uIs b5 w1]]) (vs:=[.agg [d0,d1]]) (Z1I (M:=MA) (b4:=b4) (b5:=b5) (w0:=w0) (w1:=w1)) rfl (nT hl1 n2.next) n2.lt ⟨_,[],rfl,k0R (v0.mono e2) (v1.mono e2),rfl⟩
  have:=o3.bool
  subst this
  have q17:f17 (MH H.next) d0 d1 H2=some (.c (.bool (decide (w0.length<=70)&&decide (w1.length<=70))),H3):=o1
  have r13:=r12.trans o2
  have e3:=r13.le0 (fun _ h=>h)
  cases hsh:(decide (w0.length<=70)&&decide (w1.length<=70))with
  |false=>
   refine⟨H3, ?_⟩
   rw[Z0X]
   simp only[q8,oS,asC_c,asB_bool,Bool.not_true,bF,iF,q9,hfew,iT,q17,hsh,Bool.not_false,Bool.true_eq_false]
  |true=>
   simp only[bA,dE]at hsh
   have A3:AX H.next H3 F3 l es xs w0 w1 b1 b2 b3 b4 b5 c1 c2 c3 d0 d1:=⟨r13.next,r13.lt,u1.mono e3,u2.mono e3,u3.mono e3,v0.mono e3,v1.mono e3,by omega,by omega,by omega,hxs,by omega⟩
   have hsh':(decide (w0.length<=70)&&decide (w1.length<=70))=true:=by simp[hsh]
   have k0:=J0i v0
   have k1:=J0i v1
   have wl:IntKind.wrap .i64 ((w0.length:Int)+(w1.length:Int))=((w0.length+w1.length:Nat):Int):=by rw[q0e (by omega) (by omega)];simp
   have rest: ∀(H4:Heap) (F4:Nat->Prop),AX H.next H4 F4 l es xs w0 w1 b1 b2 b3 b4 b5 c1 c2 c3 d0 d1->(wErr w0 w1=0->w0.length+w1.length<=12)->
     ∃(a1 a2 a3:C) (e0 e1:C) (H5 H6 H7 H8 H9 H10:Heap) (is:Bool) (e:Int) (a4 a5 a6 e2 e3 k0 k1:C) (f:Int),f11 (MH H.next) a c1 c2 c3 H4=some (.agg [.int .i64 a,a1,a2,a3],H5)/\f19 (MH H.next) d0 d1 H5=some (.agg [e0,e1],H6)/\f18 (MH H.next) a a1 a2 a3 e0 e1 H6=some (.tuple [.c (.bool is), .c (.int .i64 e)],H7)/\
      f11 (MH H.next) a c1 c2 c3 H7=some (.agg [.int .i64 a,a4,a5,a6],H8)/\f19 (MH H.next) d0 d1 H8=some (.agg [e2,e3],H9)/\f20 (MH H.next) a a4 a5 a6 e2 e3 H9=some (.tuple [.agg [k0,k1], .c (.int .i64 f)],H10)/\
      ∃H11,f12 (MH H.next) a c1 c2 c3 H10=some (.c (.int .i64 (aErr a l es xs)),H11)/\
       (
        (aErr a l es xs=0/\ ∃H12 H13,f15 (MH H.next) d0 d1 H11=some (.c (.int .i64 (wErr w0 w1)),H12)/\f4_1 (MH H.next) a c1 c2 c3 d0 d1 is e k0 k1 f (wErr w0 w1) H12=some (.c (.bool true),H13))\/
        (aErr a l es xs≠0/\ ∃H13,f4_1 (MH H.next) a c1 c2 c3 d0 d1 is e k0 k1 f (aErr a l es xs) H11=some (.c (.bool true),H13))):=by
    intro H4 F4 A4 h12
    have hxc: ∀x∈cp xs,x.2.length<=1000000:=fun x hx=>by
     obtain⟨y,hy,rfl⟩:=List.mem_map.1 hx
     exact hxs y hy
    obtain⟨a1,a2,a3,bc,H5,F5,p1,p2,p3,p4,p5⟩:=q1s (a:=a) A4
    have A5:=A4.on p2
    obtain⟨e0,e1,H6,F6,s1,s2,s3,s4⟩:=q1t A5
    have A6:=A5.on s2
    have l6:=s2.le0 A5.hF
    have X6:AX H.next H6 F6 l es (cp xs) w0 w1 true true bc true true a1 a2 a3 e0 e1:=⟨A6.hl,A6.hF,p3.mono l6,p4.mono l6,p5.mono l6,s3,s4,A4.hll,A4.he,by rw[Z0d];exact A4.hx,hxc,A4.hw⟩
    obtain⟨is,H7,F7,t1,t2,t3,t4⟩:=Q1D (a:=a) X6
    have A7:=A6.on t2
    obtain⟨a4,a5,a6,bc',H8,F8,x1,x2,x3,x4,x5⟩:=q1s (a:=a) A7
    have A8:=A7.on x2
    obtain⟨e2,e3,H9,F9,y1,y2,y3,y4⟩:=q1t A8
    have A9:=A8.on y2
    have l9:=y2.le0 A8.hF
    have X9:AX H.next H9 F9 l es (cp xs) w0 w1 true true bc' true true a4 a5 a6 e2 e3:=⟨A9.hl,A9.hF,x3.mono l9,x4.mono l9,x5.mono l9,y3,y4,A4.hll,A4.he,by rw[Z0d];exact A4.hx,hxc,A4.hw⟩
    obtain⟨k0,k1,f,g0,g1,r0,r1,H10,F10,z1,z2,z3,z4,z5,z6⟩:=Q1E (a:=a) X9
    have A10:=A9.on z2
    obtain⟨H11,F11,i1,i2⟩:=Q1F (a:=a) A10
    have A11:=A10.on i2
    have l11:=i2.le0 A10.hF
    have ecp:eErr a l es (cp xs) w0 w1=eErr a l es xs w0 w1:=by unfold eErr;rw[q1q]
    rw[ecp,w1f]at t4
    rw[ecp]at t1 t3
    rw[ecp]at z5
    rw[ecp,w1f,Z1K]at z6
    have ha:eErr a l es xs w0 w1=0->a<=30/\w0.length+w1.length<=12:=fun h=>⟨K1M hfew (eErr_zero.1 h).1,h12 (eErr_zero.1 h).2⟩
    refine⟨a1,a2,a3,e0,e1,H5,H6,H7,H8,H9,H10,is,_,a4,a5,a6,e2,e3,k0,k1,f,p1,s1,t1,x1,y1,z1,H11,i1, ?_⟩
    by_cases h0:aErr a l es xs=0
    ·obtain⟨H12,F12,j1,j2⟩:=q1u A11
     have A12:=A11.on j2
     have l12:=j2.le0 A11.hF
     have he:eErr a l es xs w0 w1=wErr w0 w1:=by unfold eErr;rw[if_pos h0]
     obtain⟨H13,w⟩:=W0V (a:=a) A12 (is:=is) (e:=eErr a l es xs w0 w1) (f:=f) ((z3.mono l11).mono l12) ((z4.mono l11).mono l12) ha rfl t3 t4 z5 z6
     refine .inl ⟨h0,H12,H13,j1, ?_⟩
     rw[<-he];exact w
    ·have he:eErr a l es xs w0 w1=aErr a l es xs:=by unfold eErr;rw[if_neg h0]
     obtain⟨H13,w⟩:=W0V (a:=a) A11 (is:=is) (e:=eErr a l es xs w0 w1) (f:=f) (z3.mono l11) (z4.mono l11) ha rfl t3 t4 z5 z6
     refine .inr ⟨h0,H13, ?_⟩
     rw[<-he];exact w
   by_cases h12:12<w0.length+w1.length
   ·obtain⟨H4,F4,q15,q15'⟩:=q1u A3
    by_cases hw:wErr w0 w1=0
    ·refine⟨H4, ?_⟩
     rw[Z0X]
     simp only[q8,oS,asC_c,asB_bool,Bool.not_true,bF,iF,q9,hfew,iT,q17,hsh',k0,k1,wl,show((12:Int)<((w0.length+w1.length:Nat):Int)) by omega,dY,q15,asI_int,hw]
    ·obtain⟨a1,a2,a3,e0,e1,H5,H6,H7,H8,H9,H10,is,e,a4,a5,a6,e2,e3,k0',k1',f,p1,p2,p3,p4,p5,p6,H11,p7,p8⟩:=rest H4 F4 (A3.on q15') fun h=>absurd h hw
     rcases p8 with⟨p9,H12,H13,p10,p11⟩ |⟨p9,H13,p10⟩
     ·refine⟨H13, ?_⟩
      rw[Z0X]
      simp only[q8,oS,asC_c,asB_bool,Bool.not_true,bF,iF,q9,hfew,iT,q17,hsh',k0,k1,wl,show((12:Int)<((w0.length+w1.length:Nat):Int)) by omega,dY,q15,asI_int,hw,dF,p1,asA_agg,headC_cons,List.drop_succ_cons,List.drop_zero,List.length_nil,p2,p3,ext_tuple,List.getElem?_cons_zero,List.getElem?_cons_succ,p4,p5,p6,p7,p9,p10,p11]
     ·refine⟨H13, ?_⟩
      rw[Z0X]
      simp only[q8,oS,asC_c,asB_bool,Bool.not_true,bF,iF,q9,hfew,iT,q17,hsh',k0,k1,wl,show((12:Int)<((w0.length+w1.length:Nat):Int)) by omega,dY,q15,asI_int,hw,dF,p1,asA_agg,headC_cons,List.drop_succ_cons,List.drop_zero,List.length_nil,p2,p3,ext_tuple,List.getElem?_cons_zero,List.getElem?_cons_succ,p4,p5,p6,p7,p9,p10]
   ·obtain⟨a1,a2,a3,e0,e1,H5,H6,H7,H8,H9,H10,is,e,a4,a5,a6,e2,e3,k0',k1',f,p1,p2,p3,p4,p5,p6,H11,p7,p8⟩:=rest H3 F3 A3 fun _=>by omega
    rcases p8 with⟨p9,H12,H13,p10,p11⟩ |⟨p9,H13,p10⟩
    ·refine⟨H13, ?_⟩
     rw[Z0X]
     simp only[q8,oS,asC_c,asB_bool,Bool.not_true,bF,iF,q9,hfew,iT,q17,hsh',k0,k1,wl,show¬((12:Int)<((w0.length+w1.length:Nat):Int)) by omega,dY,asI_int,dF,p1,asA_agg,headC_cons,List.drop_succ_cons,List.drop_zero,List.length_nil,p2,p3,ext_tuple,List.getElem?_cons_zero,List.getElem?_cons_succ,p4,p5,p6,p7,p9,p10,p11]
    ·refine⟨H13, ?_⟩
     rw[Z0X]
     simp only[q8,oS,asC_c,asB_bool,Bool.not_true,bF,iF,q9,hfew,iT,q17,hsh',k0,k1,wl,show¬((12:Int)<((w0.length+w1.length:Nat):Int)) by omega,dY,asI_int,dF,p1,asA_agg,headC_cons,List.drop_succ_cons,List.drop_zero,List.length_nil,p2,p3,ext_tuple,List.getElem?_cons_zero,List.getElem?_cons_succ,p4,p5,p6,p7,p9,p10]
end
theorem accepts_law(us:List U)(h:TyPs [.struct [.int .i64, .sl [.int .i64], .sl [.int .i64, .int .i64, .int .i64, .int .i64], .sl [.sl [.int .i64]]], .struct [.sl [.int .i64], .sl [.int .i64]]] us){vs:List V}{H:Heap}(hv:UVs H (fun i=>i<H.next) us vs): ∃H',Vm.run (awExt 8) (progOf 8 prog true) H.next 4 0 (vs.map .val) H=some (.c (.bool true),H'):=by
 obtain⟨u1,_,rfl,h1,u2,_,rfl,h2,rfl⟩:=h
 obtain⟨a,b1,l,b2,es,b3,xs,rfl⟩:=w1O h1
 obtain⟨b4,w0,b5,w1,rfl⟩:=w1P h2
 obtain⟨v,_,rfl,g1,v',_,rfl,g2,rfl⟩:=hv
 obtain⟨c1,c2,c3,rfl,k1,k2,k3⟩:=X0L g1
 cases v' with
 |c c=>exact absurd g2.1 (by simp[U.isSt])
 |tuple _=>exact g2.elim
 |agg ys=>
  obtain⟨us,e,hx⟩:=g2
  cases e
  obtain⟨d0,_,rfl,_,j0,d1,_,rfl,_,j1,rfl⟩:=hx
  exact Z1L (a:=a) k1 k2 k3 j0 j1
end Go.Proofs.Ytglkhoamnmiolaa.R
