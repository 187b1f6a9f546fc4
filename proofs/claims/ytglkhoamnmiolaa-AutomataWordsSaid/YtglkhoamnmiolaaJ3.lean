/- - -/
import Derived.Test.YtglkhoamnmiolaaJ2
set_option linter.all false
namespace Go.Proofs.Ytglkhoamnmiolaa.R
open Go Go.Proofs.Ytglkhoamnmiolaa.Vm
def Leads(nx:Nat->List Nat)(P:Nat->Bool):List Nat->Prop
 | []=>True
 | [_]=>True
 |a::b::r=>b∈nx a/\P b=true/\Leads nx P (b::r)
section
variable{nx:Nat->List Nat}{P:Nat->Bool}
theorem Leads.snoc{v w:Nat}: ∀{l:List Nat},Leads nx P l->l.getLast?=some v->w∈nx v->P w=true->Leads nx P (l++[w])
 | [],_,h,_,_=>by cases h
 | [a],_,h,h1,h2=>by cases h;exact⟨h1,h2,trivial⟩
 |a::b::r,h,h0,h1,h2=>⟨h.1,h.2.1,Leads.snoc (l:=b::r) h.2.2 (by rw[<-h0,List.getLast?_cons_cons]) h1 h2⟩
theorem Leads.join{v:Nat}{r:List Nat}: ∀{l:List Nat},Leads nx P l->l.getLast?=some v->Leads nx P (v::r)->Leads nx P (l++r)
 | [],_,h,_=>by cases h
 | [a],_,h,h1=>by cases h;exact h1
 |a::b::l,h,h0,h1=>⟨h.1,h.2.1,Leads.join (l:=b::l) h.2.2 (by rw[<-h0,List.getLast?_cons_cons]) h1⟩
theorem Leads.at{a b:Nat}: ∀{l:List Nat} {i:Nat},Leads nx P l->l[i]? =some a->l[i+1]? =some b->b∈nx a/\P b=true
 | [],i,_,h,_=>by simp at h
 | [x],i,_,_,h=>by simp at h
 |x::y::l,0,h,h1,h2=>by
  simp only[List.getElem?_cons_zero,List.getElem?_cons_succ,oI]at h1 h2
  subst h1 h2;exact⟨h.1,h.2.1⟩
 |x::y::l,i+1,h,h1,h2=>by
  simp only[List.getElem?_cons_succ]at h1 h2
  exact Leads.at (l:=y::l) (i:=i) h.2.2 h1 (by simpa using h2)
end
inductive Bk (bf:Nat->Int):Nat->List Nat->Prop
 |first {v:Nat}:bf v= -1->Bk bf v [v]
 |step {v u:Nat} {l:List Nat}:bf v=(u:Int)->Bk bf u l->Bk bf v (v::l)
theorem w0n(n:Nat): ∀l:List Nat,l.Nodup->l.length<=(l.filter fun x=> !decide (x=n)).length+1
 | [],_=>Nat.zero_le _
 |x::l,h=>by
  obtain⟨h1,h2⟩:=List.nodup_cons.1 h
  by_cases e:x=n
  ·subst e
   have:l.filter (fun y=> !decide (y=x))=l:=List.filter_eq_self.2 fun y hy=>by
    have:y≠x:=fun e=>h1 (by rw[<-e];exact hy)
    simpa using this
   simp only[List.filter_cons,dY,Bool.not_true,bF,iF,this,List.length_cons]
   omega
  ·have:=w0n n l h2
   simp only[List.filter_cons,e,dF,Bool.not_false,iT,List.length_cons]
   omega
theorem Z0x: ∀(n:Nat) (l:List Nat),l.Nodup->(∀x∈l,x<n)->l.length<=n
 | 0,l,_,h=>by
  cases l with
  |nil=>exact Nat.zero_le _
  |cons x l=>have:=h x (by simp);omega
 |n+1,l,h1,h2=>by
  have:=w0n n l h1
  have:=Z0x n (l.filter fun x=> !decide (x=n)) (h1.filter _) fun x hx=>by
   obtain⟨g1,g2⟩:=List.mem_filter.1 hx
   have:=h2 x g1
   have:x≠n:=by simpa using g2
   omega
  omega
structure WM (nx:Nat->List Nat) (P:Nat->Bool) (src:Nat->Prop) (n:Nat) (bf:Nat->Int) (mk:List Nat):Prop where
 nd:mk.Nodup
 lt: ∀x∈mk,x<n
 iff: ∀x,bf x≠ -2↔x∈mk
 bk: ∀(i v:Nat),mk[i]? =some v->(bf v= -1/\src v)\/ ∃j u,j<i/\mk[j]? =some u/\bf v=(u:Int)/\v∈nx u/\P v=true
def upd(bf:Nat->Int)(w:Nat)(x:Int):Nat->Int:=fun u=>if u=w then x else bf u
section
variable{nx:Nat->List Nat}{P:Nat->Bool}{src:Nat->Prop}{n:Nat}{bf:Nat->Int}{mk:List Nat}
theorem WM.nil:WM nx P src n (fun _=> -2) []:=⟨.nil,fun x h=>(by cases h),fun x=>(by simp),fun i v h=>(by simp at h)⟩
theorem WM.len(h:WM nx P src n bf mk):mk.length<=n:=Z0x n mk h.nd h.lt
theorem WM.val(h:WM nx P src n bf mk)(v:Nat):bf v= -2\/bf v= -1\/ ∃u:Nat,bf v=(u:Int):=by
 by_cases e:bf v= -2
 ·exact .inl e
 ·obtain⟨i,hi⟩:=List.mem_iff_getElem?.1 ((h.iff v).1 e)
  rcases h.bk i v hi with⟨g,_⟩ |⟨j,u,_,_,g,_⟩
  ·exact .inr (.inl g)
  ·exact .inr (.inr ⟨u,g⟩)
theorem WM.add(h:WM nx P src n bf mk){w:Nat}(hw:w<n)(hn:bf w= -2){x:Int}(hx:(x= -1/\src w)\/ ∃u,u∈mk/\x=((u:Nat):Int)/\w∈nx u/\P w=true):WM nx P src n (upd bf w x) (mk++[w]):=by
 have hwm:w∉mk:=fun e=>(h.iff w).2 e hn
 refine⟨List.nodup_append.2 ⟨h.nd,by simp,fun a ha b hb e=>by simp at hb;subst hb;exact hwm (by rw[<-e];exact ha)⟩,fun y hy=> ?_,fun y=> ?_,fun i v hi=> ?_⟩
 ·rcases mA.1 hy with g |g
  ·exact h.lt y g
  ·simp at g;omega
 ·unfold upd
  by_cases e:y=w
  ·subst e
   simp only[iT,mA,List.mem_singleton,or_true,iff_true]
   rcases hx with⟨g,_⟩ |⟨u,_,g,_⟩<;>omega
  ·simp only[if_neg e,mA,List.mem_singleton,e,or_false]
   exact h.iff y
 ·have keep: ∀u,u∈mk->upd bf w x u=bf u:=fun u hu=>by
   unfold upd
   rw[if_neg fun e=>hwm (by rw[<-e];exact hu)]
  by_cases hlt:i<mk.length
  ·rw[List.getElem?_append_left hlt]at hi
   have hv:=List.mem_of_getElem? hi
   rw[keep v hv]
   rcases h.bk i v hi with g |⟨j,u,g1,g2,g3⟩
   ·exact .inl g
   ·exact .inr ⟨j,u,g1,by rw[List.getElem?_append_left (by omega)];exact g2,g3⟩
  ·rw[List.getElem?_append_right (by omega)]at hi
   have hi0:i - mk.length=0:=by
    have:=(gE.1 hi).1
    simp at this;omega
   rw[hi0]at hi
   simp at hi
   subst hi
   have e:upd bf w x w=x:=by simp[upd]
   rw[e]
   rcases hx with g |⟨u,g1,g2,g3⟩
   ·exact .inl g
   ·obtain⟨j,hj⟩:=List.mem_iff_getElem?.1 g1
    have hjl:=(gE.1 hj).1
    exact .inr ⟨j,u,by omega,by rw[List.getElem?_append_left hjl];exact hj,g2,g3⟩
theorem WM.back(h:WM nx P src n bf mk)(i:Nat): ∀v:Nat,mk[i]? =some v-> ∃l,Bk bf v l/\l.length<=i+1/\(∃s,l.getLast?=some s/\src s)/\l.head?=some v/\Leads nx P l.reverse/\ ∀x∈l,x<n:=by
 induction i using Nat.strongRecOn with
 |_ i ih=>
  intro v hv
  have hvn:=h.lt v (List.mem_of_getElem? hv)
  rcases h.bk i v hv with⟨g1,g2⟩ |⟨j,u,g1,g2,g3,g4,g5⟩
  ·exact⟨[v], .first g1,by simp,⟨v,rfl,g2⟩,rfl,trivial,fun x hx=>by simp at hx;omega⟩
  ·obtain⟨l,l1,l2,⟨s,l3,l3'⟩,l4,l5,l6⟩:=ih j g1 u g2
   refine⟨v::l, .step g3 l1,by simp;omega,⟨s, ?_,l3'⟩,rfl, ?_,fun x hx=> ?_⟩
   ·rw[List.getLast?_cons,l3];rfl
   ·rw[List.reverse_cons]
    exact l5.snoc (by rw[List.getLast?_reverse];exact l4) g4 g5
   ·rcases mC.1 hx with e |e
    ·omega
    ·exact l6 x e
end
structure WayR (nx:Nat->List Nat) (P Q:Nat->Bool) (src:Nat->Prop) (n m:Nat) (l:List Nat):Prop where
 lead:Leads nx P l
 first: ∃s,l.head?=some s/\src s
 last: ∃w,l.getLast?=some w/\Q w=true
 len:m+1<=l.length/\l.length<=n+1
 lt: ∀x∈l,x<n
def NoWay(nx:Nat->List Nat)(P Q:Nat->Bool)(src:Nat->Prop)(m:Nat):Prop:=
 (m=0-> ∀s,src s->Q s=false)/\ ∀s u w,src s->Rch (fun x=>(nx x).filter P) s u->w∈nx u->P w=true->Q w=false
structure WS (rows:List (Bool×List Int)) (n:Nat) (P Q:Nat->Bool) (src:Nat->Prop) (bf:Nat->Int) (mk:List Nat) (q:List Int) (cur:Option (Nat×Nat)):Prop where
 m:WM (nxL rows) P src n bf mk
 ops: ∀x∈q,∃j:Nat,x=j/\j∈mk
 src: ∀s,src s->s∈mk
 all: ∀x∈mk,(x:Int)∈q\/(∀y∈nxL rows x,P y=true->y∈mk/\Q y=false)\/ ∃k,cur=some (x,k)
 cur: ∀x k,cur=some (x,k)->x∈mk/\ ∀j y:Nat,j<k->(rows.getD x (false,[])).2[j]? =some (y:Int)->P y=true->y∈mk/\Q y=false
section
variable{rows:List (Bool×List Int)}{n:Nat}{P Q:Nat->Bool}{src:Nat->Prop}{bf:Nat->Int}{mk:List Nat}{q:List Int}(hT:Table n rows)
theorem WS.done(h:WS rows n P Q src bf mk [] none){s u w:Nat}(hs:src s)(hr:Rch (fun x=>(nxL rows x).filter P) s u)(hw:w∈nxL rows u)(hp:P w=true):Q w=false:=by
 have key: ∀a b,Rch (fun x=>(nxL rows x).filter P) a b->a∈mk->b∈mk:=by
  intro a b hab
  induction hab with
  |refl=>exact id
  |step g1 _ ih=>
   intro ha
   obtain⟨g2,g3⟩:=List.mem_filter.1 g1
   rcases h.all _ ha with g |g |⟨k,g⟩
   ·simp at g
   ·exact ih (g _ g2 g3).1
   ·cases g
 rcases h.all u (key s u hr (h.src s hs))with g |g |⟨k,g⟩
 ·simp at g
 ·exact(g w hw hp).2
 ·cases g
theorem WS.take{x:Nat}(h:WS rows n P Q src bf mk ((x:Int)::q) none):WS rows n P Q src bf mk q (some (x,0)):=by
 obtain⟨j,hj,hjm⟩:=h.ops x (by simp)
 have hxm:x∈mk:=by rw[show x=j by omega];exact hjm
 refine⟨h.m,fun z hz=>h.ops z (by simp[hz]),h.src,fun z hz=> ?_,fun z k e=> ?_⟩
 ·rcases h.all z hz with g |g |⟨k,g⟩
  ·rcases mC.1 g with g |g
   ·exact .inr (.inr ⟨0,by rw[show z=x by omega]⟩)
   ·exact .inl g
  ·exact .inr (.inl g)
  ·cases g
 ·cases e;exact⟨hxm,fun j y hj=>absurd hj (Nat.not_lt_zero _)⟩
include hT in
theorem WS.left{x k:Nat}(h:WS rows n P Q src bf mk q (some (x,k)))(hk:(rows.getD x (false,[])).2.length<=k):WS rows n P Q src bf mk q none:=
 ⟨h.m,h.ops,h.src,fun z hz=>by
  rcases h.all z hz with g |g |⟨k',g⟩
  ·exact .inl g
  ·exact .inr (.inl g)
  ·cases g
   refine .inr (.inl fun y hy=> ?_)
   obtain⟨j,hj⟩:=List.mem_iff_getElem?.1 ((q0X hT).1 hy)
   have hjl:=(gE.1 hj).1
   exact(h.cur x k rfl).2 j y (by omega) hj,fun z k' e=>(by cases e)⟩
theorem WS.skip{x k y:Nat}(h:WS rows n P Q src bf mk q (some (x,k)))(hk:(rows.getD x (false,[])).2[k]? =some (y:Int))(hy:P y=true->y∈mk/\Q y=false):WS rows n P Q src bf mk q (some (x,k+1)):=
 ⟨h.m,h.ops,h.src,fun z hz=>by
  rcases h.all z hz with g |g |⟨k',g⟩
  ·exact .inl g
  ·exact .inr (.inl g)
  ·cases g;exact .inr (.inr ⟨k+1,rfl⟩),fun z k' e=>by
  cases e
  refine⟨(h.cur x k rfl).1,fun j y' hj hj'=> ?_⟩
  by_cases hjk:j<k
  ·exact(h.cur x k rfl).2 j y' hjk hj'
  ·have:j=k:=by omega
   subst this
   rw[hk]at hj'
   have:y=y':=by have:=Option.some.inj hj';omega
   rw[<-this];exact hy⟩
include hT in
theorem WS.mark{x k y:Nat}(h:WS rows n P Q src bf mk q (some (x,k)))(hk:(rows.getD x (false,[])).2[k]? =some (y:Int))(hyn:y<n)(hp:P y=true)(hq:Q y=false)(hb:bf y= -2):
  WS rows n P Q src (upd bf y (x:Int)) (mk++[y]) (q++[(y:Int)]) (some (x,k+1)):=by
 obtain⟨hx,hc⟩:=h.cur x k rfl
 have hym:y∈nxL rows x:=(q0X hT).2 (List.mem_of_getElem? hk)
 refine⟨h.m.add hyn hb (.inr ⟨x,hx,rfl,hym,hp⟩),fun z hz=> ?_,fun s hs=>mA.2 (.inl (h.src s hs)),fun z hz=> ?_,fun z k' e=> ?_⟩
 ·rcases mA.1 hz with g |g
  ·obtain⟨j,g1,g2⟩:=h.ops z g
   exact⟨j,g1,mA.2 (.inl g2)⟩
  ·exact⟨y,by simpa using g,by simp⟩
 ·rcases mA.1 hz with g |g
  ·rcases h.all z g with g |g |⟨k',g⟩
   ·exact .inl (mA.2 (.inl g))
   ·exact .inr (.inl fun y' hy' hp'=>⟨mA.2 (.inl (g y' hy' hp').1),(g y' hy' hp').2⟩)
   ·cases g;exact .inr (.inr ⟨k+1,rfl⟩)
  ·have:z=y:=by simpa using g
   exact .inl (by rw[this];simp)
 ·cases e
  refine⟨mA.2 (.inl hx),fun j y' hj hj' hp'=> ?_⟩
  by_cases hjk:j<k
  ·exact⟨mA.2 (.inl (hc j y' hjk hj' hp').1),(hc j y' hjk hj' hp').2⟩
  ·have:j=k:=by omega
   subst this
   rw[hk]at hj'
   have:y=y':=by have:=Option.some.inj hj';omega
   subst this
   exact⟨by simp,hq⟩
theorem WS.found{x k y:Nat}(h:WS rows n P Q src bf mk q (some (x,k)))(hy:y∈nxL rows x)(hyn:y<n)(hp:P y=true)(hq:Q y=true){m:Nat}(hm:m<=1):
  ∃l,Bk bf x l/\l.length<=n/\WayR (nxL rows) P Q src n m (l.reverse++[y]):=by
 obtain⟨i,hi⟩:=List.mem_iff_getElem?.1 (h.cur x k rfl).1
 obtain⟨l,l1,l2,⟨s,l3,l3'⟩,l4,l5,l6⟩:=h.m.back i x hi
 have hil:=(gE.1 hi).1
 have hml:=h.m.len
 have hl0:1<=l.length:=by cases l with
  |nil=>cases l4
  |cons _ _=>simp
 refine⟨l,l1,by omega,l5.snoc (by rw[List.getLast?_reverse];exact l4) hy hp,⟨s, ?_,l3'⟩,⟨y,by simp,hq⟩,⟨by simp;omega,by simp;omega⟩,fun z hz=> ?_⟩
 ·rw[List.head?_append,List.head?_reverse,l3];rfl
 ·rcases mA.1 hz with g |g
  ·exact l6 z (List.mem_reverse.1 g)
  ·have:z=y:=by simpa using g
   omega
end
theorem j0g(l:List Int):(l.map rowI).flatten=l.map (C.int .i64):=by
 induction l with
 |nil=>rfl
 |cons x l ih=>simp only[List.map_cons,List.flatten_cons,rowI,List.singleton_append,ih]
theorem Q0D{H:Heap}{lim b:Nat}{c:C}{l:List Int}(h:OInts H b c l)(hl:lim<=b){k:Nat}(hk:k<l.length)(x:Int):
  ∃q H',C.elem 1 c (k:Int)=some q/\Heap.st lim H q.1 q.2 [.int .i64 x]=some H'/\OInts H' b c (l.set k x)/\H'.next=H.next/\ ∀i,i<b->H'.get i=H.get i:=by
 obtain⟨h1,h2,⟨rfl,h3⟩ |⟨i,o,cs,rfl,h3,h4,h5,h6,h7⟩⟩:=h
 ·simp at h3;subst h3;simp at hk
 ·simp only[List.length_map,Nat.mul_one]at h6 h7
  rw[j0g]at h7
  refine⟨(i,o+k),_, ?_,q0s h5 (by omega) (by omega),⟨by simpa using h1,fun r hr=>by obtain⟨y,_,rfl⟩:=List.mem_map.1 hr;rfl, .inr ⟨i,o,_,by simp,h3,by simpa using h4,put_same _ _ _,by simpa using h6, ?_⟩⟩,rfl,fun j hj=>q0c (by omega)⟩
  ·simp only[C.elem,List.length_map]
   rw[if_pos ⟨by omega,by omega⟩];simp
  ·rw[j0g,List.length_map,List.length_set,Nat.mul_one,List.drop_set,if_neg (by omega),List.take_set,h7,List.map_set]
   congr 1
   omega
theorem k1b{l cur:List Int}{i:Nat}(hc:cur.length=l.length)(hi:i<l.length - 1 - i)(h: ∀k,k<l.length->cur[k]? =if k<i\/l.length - i<=k then l[l.length - 1 - k]? else l[k]?){x y:Int}(hx:cur[i]? =some x)(hy:cur[l.length - 1 - i]? =some y):
  ∀k,k<l.length->((cur.set i y).set (l.length - 1 - i) x)[k]? =if k<i+1\/l.length - (i+1)<=k then l[l.length - 1 - k]? else l[k]? :=by
 intro k hk
 have e1:=h i (by omega)
 rw[if_neg (by omega),hx]at e1
 have e2:=h (l.length - 1 - i) (by omega)
 rw[if_neg (by omega),hy]at e2
 rw[List.getElem?_set,List.getElem?_set,List.length_set]
 by_cases k1:l.length - 1 - i=k
 ·rw[if_pos k1,if_pos (by omega),if_pos (by omega),<-k1,e1]
  congr 1;omega
 ·rw[if_neg k1]
  by_cases k2:i=k
  ·rw[if_pos k2,if_pos (by omega),if_pos (by omega),<-k2,e2]
  ·rw[if_neg k2,h k hk]
   by_cases k3:k<i\/l.length - i<=k
   ·rw[if_pos k3,if_pos (by omega)]
   ·rw[if_neg k3,if_neg (by omega)]
theorem Y0c{M:Mach}{b:Nat}{c:C}{l:List Int}(hl:M.lim<=b)(hn:l.length<=1000000): ∀(d i:Nat) (H:Heap) (cur:List Int),l.length<=i+i+d->i<=l.length->cur.length=l.length->OInts H b c cur->(∀k,k<l.length->cur[k]? =if k<i\/l.length - i<=k then l[l.length - 1 - k]? else l[k]?)->
  ∃H',f112_1 M c (i:Int) ((l.length:Int) - 1 - (i:Int)) H=some (.tuple [],H')/\OInts H' b c l.reverse/\H'.next=H.next/\ ∀i,i<b->H'.get i=H.get i:=by
 have fin: ∀(i:Nat) (H:Heap) (cur:List Int),l.length<=i+i+1->i<=l.length->cur.length=l.length->OInts H b c cur->(∀k,k<l.length->cur[k]? =if k<i\/l.length - i<=k then l[l.length - 1 - k]? else l[k]?)->cur=l.reverse:=by
  intro i H cur h0 hi hc ho h
  refine List.ext_getElem? fun k=> ?_
  by_cases hk:k<l.length
  ·rw[h k hk,List.getElem?_reverse hk]
   split
   ·rfl
   ·congr 1;omega
  ·rw[List.getElem?_eq_none (by omega),List.getElem?_eq_none (by rw[List.length_reverse];omega)]
 intro d
 induction d with
 |zero=>
  intro i H cur h0 hi hc ho h
  have e:=fin i H cur (by omega) hi hc ho h
  subst e
  refine⟨H, ?_,ho,rfl,fun _ _=>rfl⟩
  rw[w0P]
  simp only[show¬((i:Int)<(l.length:Int) - 1 - (i:Int)) by omega,dF,bF,iF]
 |succ d ih=>
  intro i H cur h0 hi hc ho h
  by_cases hlt:i<l.length - 1 - i
  ·have hx:cur[i]? =some cur[i]:=q0a (by omega)
   have hy:cur[l.length - 1 - i]? =some cur[l.length - 1 - i]:=q0a (by omega)
   have ej:(l.length:Int) - 1 - (i:Int)=((l.length - 1 - i:Nat):Int):=by omega
   obtain⟨p1,r1,r2⟩:=ho.ints.read hx
   obtain⟨p2,r3,r4⟩:=ho.ints.read hy
   obtain⟨q1,H1,w1,w2,w3,w4,w5⟩:=Q0D (lim:=M.lim) ho hl (show i<cur.length by omega) cur[l.length - 1 - i]
   obtain⟨q2,H2,w6,w7,w8,w9,w10⟩:=Q0D (lim:=M.lim) w3 hl (show l.length - 1 - i<(cur.set i cur[l.length - 1 - i]).length by rw[List.length_set];omega) cur[i]
   obtain⟨H',z1,z2,z3,z4⟩:=ih (i+1) H2 _ (by omega) (by omega) (by simp[hc]) w8 (k1b hc hlt h hx hy)
   refine⟨H', ?_,z2,by omega,fun j hj=>by rw[z4 j hj,w10 j hj,w5 j hj]⟩
   have ep:p1=q1:=Option.some.inj (r1.symm.trans w1)
   have eq:p2=q2:=Option.some.inj (r3.symm.trans w6)
   subst ep eq
   rw[w0P,ej]
   have e1:IntKind.wrap .i64 ((i:Int)+1)=((i+1:Nat):Int):=q0b (by omega)
   have e2:IntKind.wrap .i64 (((l.length - 1 - i:Nat):Int) - 1)=(l.length:Int) - 1 - ((i+1:Nat):Int):=by rw[q0g (by omega) (by omega)];omega
   simp only[show((i:Int)<((l.length - 1 - i:Nat):Int)) by omega,dY,iT,r1,r2,r3,r4,w1,w2,w6,w7,oS,asI_int,e1,e2,z1]
  ·have e:=fin i H cur (by omega) hi hc ho h
   subst e
   refine⟨H, ?_,ho,rfl,fun _ _=>rfl⟩
   rw[w0P]
   simp only[show¬((i:Int)<(l.length:Int) - 1 - (i:Int)) by omega,dF,bF,iF]
theorem k1c{M:Mach}{b:Nat}{c:C}{l:List Int}{H:Heap}(hl:M.lim<=b)(hn:l.length<=1000000)(ho:OInts H b c l):
  ∃H',f112 M c H=some (.tuple [],H')/\OInts H' b c l.reverse/\H'.next=H.next/\ ∀i,i<b->H'.get i=H.get i:=by
 obtain⟨H',z1,z2⟩:=Y0c (M:=M) hl hn l.length 0 H l (by omega) (by omega) rfl ho (fun k hk=>by rw[if_neg (by omega)])
 refine⟨H', ?_,z2⟩
 rw[Q1N]
 have hlen:C.len c=some l.length:=ho.ints.len
 have e:IntKind.wrap .i64 ((l.length:Int) - 1)=(l.length:Int) - 1 - ((0:Nat):Int):=by rw[q0g (by omega) (by omega)];omega
 simp only[hlen,oS,e]
 exact z1
def PredC(M:Mach)(b:Nat)(H0:Heap)(c:C)(n:Nat)(P:Nat->Bool):Prop:=
 ∃q:FuncId×List C×List C,C.asF c=some q/\ ∀H,FrB b H0 H-> ∀v:Nat,v<n->mcall M q.1 (q.2.1.map .c++[.c (.int .i64 (v:Int))]++q.2.2.map .c) H=some (.c (.bool (P v)),H)
structure Wq (H1:Heap) (jp jb n:Nat) (H:Heap) (bf:Nat->Int) (c:C) (q:List Int):Prop where
 tb:H.get jb=some (.cells 1 (fc n bf))
 qq:OInts H H1.next c q
 fr: ∀i,i<H1.next->i≠jb->H.get i=H1.get i
structure Wid (M:Mach) (b:Nat) (H1:Heap) (jp jb n:Nat):Prop where
 hl:M.lim<=b
 lt:b<=jb/\b<=jp/\jb<H1.next/\jp<H1.next/\jp≠jb
 pt:H1.get jp=some (.cells 1 [.slice jb 0 n])
section
variable{M:Mach}{b:Nat}{H0 H1 H:Heap}{jp jb n:Nat}{bf:Nat->Int}{c:C}{q:List Int}
theorem Wq.nx(h:Wq H1 jp jb n H bf c q):H1.next<=H.next:=h.qq.1
theorem Wq.frB(h:Wq H1 jp jb n H bf c q)(I:Wid M b H1 jp jb n)(f:FrB b H0 H1):FrB b H0 H:=
 ⟨nT f.next h.nx,fun i hi=>by have:=I.lt;rw[h.fr i (by omega) (by omega)];exact f.old i hi⟩
theorem Wq.ldp(h:Wq H1 jp jb n H bf c q)(I:Wid M b H1 jp jb n):Heap.ld H jp 0=some (.slice jb 0 n):=by
 have:=I.lt
 have e:H.get jp=some (.cells 1 [.slice jb 0 n]):=by rw[h.fr jp (by omega) (by omega)];exact I.pt
 rw[q0f e];rfl
theorem Wq.ldb(h:Wq H1 jp jb n H bf c q){v:Nat}(hv:v<n):Heap.ld H jb v=some (.int .i64 (bf v)):=by
 rw[q0f h.tb];exact k0E hv
theorem Wq.set(h:Wq H1 jp jb n H bf c q)(I:Wid M b H1 jp jb n){v:Nat}(hv:v<n)(x:Int): ∃H',Heap.st M.lim H jb v [.int .i64 x]=some H'/\Wq H1 jp jb n H' (upd bf v x) c q:=by
 have hlt:=I.lt;have hl:=I.hl
 refine⟨_,q0s h.tb (by omega) (by rw[z0V];exact hv), ?_,q0Q h.qq fun j p m e=> ?_,fun i hi hne=>by rw[q0c hne];exact h.fr i hi hne⟩
 ·rw[put_same,Z0P hv];rfl
 ·rcases h.qq.2.2 with⟨e',_⟩ |⟨i,o,cs,e',h2,_⟩
  ·rw[e]at e';cases e'
  ·rw[e]at e';cases e';omega
theorem Wq.push(h:Wq H1 jp jb n H bf c q)(I:Wid M b H1 jp jb n)(x:Int)(hroom:q.length+1<=2 ^ 36):
  Heap.cellsOf (H.alloc (.cells 1 [.int .i64 x])) 1 (.slice H.next 0 1)=some [.int .i64 x]/\ ∃c' H',Heap.app M.lim (H.alloc (.cells 1 [.int .i64 x])) 1 c [.int .i64 x] 1=some (c',H')/\Wq H1 jp jb n H' bf c' (q++[x]):=by
 have hlt:=I.lt;have hl:=I.hl
 obtain⟨a1,c',H',a2,a3,a4,a5⟩:=h.qq.append1 (lim:=M.lim) (by omega) x hroom
 have hn:=h.nx
 have hc: ∀i,i<H1.next-> ∀o n,c≠ .slice i o n:=fun i hi o n e=>by
  rcases h.qq.2.2 with⟨e',_⟩ |⟨i',o',cs,e',h2,_⟩
  ·rw[e]at e';cases e'
  ·rw[e]at e';cases e';omega
 refine⟨a1,c',H',a2, ?_,a3,fun i hi hne=> ?_⟩
 ·rw[a4.keep jb (by omega) (hc jb (by omega))];exact h.tb
 ·rw[a4.keep i (by omega) (hc i hi)];exact h.fr i hi hne
theorem Wq.pop{lim:Nat}{s:Int}(h:Wq H1 jp jb n H bf c (s::q)): ∃p c5,C.elem 1 c 0=some p/\H.ld p.1 p.2=some (.int .i64 s)/\Heap.sub lim H 1 c 1 none=some c5/\Wq H1 jp jb n H bf c5 q:=by
 obtain⟨p,a1,a2⟩:=h.qq.ints.read (j:=0) (v:=s) rfl
 have e0:((0:Nat):Int)=0:=rfl
 rw[e0]at a1
 obtain⟨hb,hr,h0 |⟨i,o,cs,he,h2,h3,h4,h5,h6⟩⟩:=h.qq
 ·simp at h0
 ·simp only[List.map_cons,List.length_cons,List.length_map]at he h5 h6
  subst he
  have hsub:Heap.sub lim H 1 (.slice i o (q.length+1)) 1 none=some (.slice i (o+1) q.length):=by
   have hbad:H.szBad i 1=false:=by simp[Heap.szBad,h4]
   simp only[Heap.sub,hbad,bF,and_false,iF,Option.getD_none]
   rw[if_pos (by omega)]
   simp
  refine⟨p,_,a1,a2,hsub,h.tb,⟨hb,fun r hr'=>hr r (by simp at hr'⊢;exact .inr hr'), .inr ⟨i,o+1,cs,by simp,h2,h3,h4,by simp;omega, ?_⟩⟩,h.fr⟩
  simp only[List.length_map]
  have e:(cs.drop (o+1)).take (q.length*1)=((cs.drop o).take ((q.length+1)*1)).drop 1:=by
   rw[List.drop_take,List.drop_drop];congr 1
  rw[e,h6]
  simp[rowI]
theorem Y0d{b1:Nat}(hl:M.lim<=b1)(hjp:jp<b1)(hjb:jb<b1){v:Nat}{l:List Nat}(hbk:Bk bf v l): ∀(H:Heap) (c:C) (out:List Int),(∀x∈l,x<n)->out.length+l.length<=1000000->H.get jb=some (.cells 1 (fc n bf))->H.get jp=some (.cells 1 [.slice jb 0 n])->OInts H b1 c out->
  ∃H' c',f111_1 M (v:Int) (.ptr jp 0) c H=some (.c c',H')/\OInts H' b1 c' (out++l.map fun x=>((x:Nat):Int)).reverse/\ ∀i,i<b1->H'.get i=H.get i:=by
 have push: ∀(H:Heap) (c:C) (out:List Int) (v:Nat),out.length+1<=1000000->v<n->H.get jb=some (.cells 1 (fc n bf))->H.get jp=some (.cells 1 [.slice jb 0 n])->OInts H b1 c out->
   ∃H1 c1,f111_1 M (v:Int) (.ptr jp 0) c H=f111_1 M (bf v) (.ptr jp 0) c1 H1/\OInts H1 b1 c1 (out++[(v:Int)])/\(∀i,i<b1->H1.get i=H.get i)/\H1.get jb=some (.cells 1 (fc n bf))/\H1.get jp=some (.cells 1 [.slice jb 0 n]):=by
  intro H c out v hn hv h1 h2 ho
  obtain⟨a1,c',H',a2,a3,a4,a5⟩:=ho.append1 (lim:=M.lim) hl (v:Int) (by omega)
  have hk: ∀i,i<b1->H'.get i=H.get i:=fun i hi=>a4.keep i (by have:=ho.1;omega) fun o m e=>by
   rcases ho.2.2 with⟨e',_⟩ |⟨i',o',cs,e',h2,_⟩
   ·rw[e]at e';cases e'
   ·rw[e]at e';cases e';omega
  have k1:H'.get jb=some (.cells 1 (fc n bf)):=by rw[hk jb hjb];exact h1
  have k2:H'.get jp=some (.cells 1 [.slice jb 0 n]):=by rw[hk jp hjp];exact h2
  refine⟨H',c', ?_,a3,hk,k1,k2⟩
  rw[Z0j]
  simp only[show(0:Int)<=(v:Int) by omega,dY,iT,a1,a2,oS,asP_ptr,q0f k2,List.getElem?_cons_zero,q0i hv,q0f k1,k0E hv,asI_int]
 induction hbk with
 | @first v h0=>
  intro H c out hx hlen h1 h2 ho
  simp only[List.length_cons,List.length_nil]at hlen
  obtain⟨H1,c1,e1,e2,e3,e4,e5⟩:=push H c out v (by omega) (hx v (by simp)) h1 h2 ho
  obtain⟨H',z1,z2,z3,z4⟩:=k1c (M:=M) hl (by simp;omega) e2
  refine⟨H',c1, ?_,z2,fun i hi=>by rw[z4 i hi,e3 i hi]⟩
  rw[e1,h0,Z0j]
  simp only[show¬((0:Int)<= -1) by omega,dF,bF,iF,z1,oS]
 | @step v u l h0 _ ih=>
  intro H c out hx hlen h1 h2 ho
  simp only[List.length_cons]at hlen
  obtain⟨H1,c1,e1,e2,e3,e4,e5⟩:=push H c out v (by omega) (hx v (by simp)) h1 h2 ho
  obtain⟨H',c',z1,z2,z3⟩:=ih H1 c1 (out++[(v:Int)]) (fun x hx'=>hx x (by simp[hx'])) (by simp;omega) e4 e5 e2
  refine⟨H',c',by rw[e1,h0];exact z1, ?_,fun i hi=>by rw[z3 i hi,e3 i hi]⟩
  rw[List.map_cons]
  rwa [List.append_assoc,List.singleton_append]at z2
end
def natI(l:List Nat):List Int:=l.map fun x=>((x:Nat):Int)
theorem q0m(l:List Nat):(natI l).length=l.length:=by simp[natI]
theorem z0G{l:List Nat}{k x:Nat}(h:l[k]? =some x):(natI l)[k]? =some (x:Int):=by simp[natI,h]
theorem z0H(l r:List Nat):natI (l++r)=natI l++natI r:=by simp[natI]
def RdI(b:Nat)(H0:Heap)(c:C)(l:List Int):Prop:=
 C.len c=some l.length/\ ∀H,FrB b H0 H-> ∀(j:Nat) (v:Int),l[j]? =some v-> ∃q,C.elem 1 c (j:Int)=some q/\H.ld q.1 q.2=some (.int .i64 v)
theorem RdI.of_uc{b:Nat}{H0:Heap}{F:Nat->Prop}{b0:Bool}{l:List Int}{c:C}(h:UC H0 F (uIs b0 l) [c])(hF: ∀i,F i->i<b):RdI b H0 c l:=
 ⟨X0i h,fun H f j v hj=>by
  obtain⟨i,o,h1,_,h2⟩:=rdN (j0F h f hF) hj
  exact⟨(i,o),h1,h2⟩⟩
theorem Ints.old{H H':Heap}{c:C}{l:List Int}{b:Nat}(h:Ints H c l)(hb: ∀i o n,c= .slice i o n->i<b)(hk: ∀i,i<b->H'.get i=H.get i)(hn:b<=H'.next):Ints H' c l:=
 ⟨h.1,h.2.imp id fun⟨i,o,z,cs,h1,h2,h3,h4⟩=>⟨i,o,z,cs,h1,nL (hb _ _ _ h1) hn,by rw[hk i (hb _ _ _ h1)];exact h3,h4⟩⟩
theorem RdI.of_ints{b:Nat}{H0:Heap}{l:List Int}{c:C}(h:Ints H0 c l)(hb: ∀i o n,c= .slice i o n->i<b):RdI b H0 c l:=
 ⟨h.len,fun H f j v hj=>(Ints.old h hb f.old f.next).read hj⟩
def WayEnd(H1:Heap)(jb n m:Nat)(rows:List (Bool×List Int))(P Q:Nat->Bool)(src:Nat->Prop)(r:Rs):Prop:=
 (∃H' c l,r=some (.tuple [.c c, .c (.bool true)],H')/\H1.next<=H'.next/\(∀i,i<H1.next->i≠jb->H'.get i=H1.get i)/\OInts H' H1.next c (natI l)/\WayR (nxL rows) P Q src n m l)\/
 (∃H',r=some (.tuple [.c .nilSlice, .c (.bool false)],H')/\H1.next<=H'.next/\(∀i,i<H1.next->i≠jb->H'.get i=H1.get i)/\NoWay (nxL rows) P Q src m)
section
variable{M:Mach}{b:Nat}{H0 H1:Heap}{F:Nat->Prop}{jp jb n m:Nat}{g pm ak:C}{bb:Bool}{rows:List (Bool×List Int)}{src:Nat->Prop}{P Q:Nat->Bool}
variable(I:Wid M b H1 jp jb n)(f1:FrB b H0 H1)(hF: ∀i,F i->i<b)(hg:UC H0 F (uLs bb rows) [g])(hT:Table n rows)(hn:n<=1000000)(hP:PredC M b H0 pm n P)(hQ:PredC M b H0 ak n Q)(hm:m<=1)
include I f1 hF hg hT hn hP hQ hm
theorem j1c{x:Nat}(hx:x<n){r:Bool×List Int}(hr:rows[x]? =some r){c7:C}(h7:UC H0 F (uIs r.1 r.2) [c7]){d:Nat}(hd:d<=3000000)
  (ih: ∀(H:Heap) (bf:Nat->Int) (c:C) (op:List Int) (mk:List Nat),Wq H1 jp jb n H bf c op->(n - mk.length)+op.length<=d->WS rows n P Q src bf mk op none->WayEnd H1 jb n m rows P Q src (f99_3 M g pm ak (.ptr jp 0) c (.func 111 [] [.ptr jp 0]) H)):
  ∀(e k:Nat) (H:Heap) (bf:Nat->Int) (c:C) (op:List Int) (mk:List Nat),k+e=r.2.length->Wq H1 jp jb n H bf c op->(n - mk.length)+op.length<=d->WS rows n P Q src bf mk op (some (x,k))->
   WayEnd H1 jb n m rows P Q src (f99_4 M g pm ak (.ptr jp 0) c (.func 111 [] [.ptr jp 0]) (x:Int) c7 (r.2.length:Int) (k:Int) H):=by
 have hrx:rows.getD x (false,[])=r:=by rw[lG,hr];rfl
 have hlen:=J0d hT hr
 obtain⟨p,hp1,hp2⟩:=hP
 obtain⟨q,hq1,hq2⟩:=hQ
 intro e
 induction e with
 |zero=>
  intro k H bf c op mk hk ho hd' hI
  rw[W0Y]
  simp only[show¬((k:Int)<(r.2.length:Int)) by omega,dF,bF,iF]
  exact ih H bf c op mk ho hd' (hI.left hT (by rw[hrx];omega))
 |succ e ihe=>
  intro k H bf c op mk hk ho hd' hI
  have hlt:k<r.2.length:=by omega
  obtain⟨y0,y1⟩:=hT.2.1 _ (List.mem_of_getElem? hr) _ (lM hlt)
  obtain⟨y,hy⟩:=iZ y0
  have hget:r.2[k]? =some (y:Int):=by rw[q0a hlt,hy]
  have hget':(rows.getD x (false,[])).2[k]? =some (y:Int):=by rw[hrx];exact hget
  have hyn:y<n:=by omega
  have fH:=ho.frB I f1
  obtain⟨i2,o2,k1,k2,k3⟩:=rdN (j0F h7 fH hF) hget
  have eI:IntKind.wrap .i64 ((k:Int)+1)=((k+1:Nat):Int):=q0b (by omega)
  have hy1:y∈nxL rows x:=(q0X hT).2 (List.mem_of_getElem? hget')
  have q1:=hp2 H fH y hyn
  have q2:=hq2 H fH y hyn
  rw[W0Y]
  simp only[show((k:Int)<(r.2.length:Int)) by omega,dY,iT,k1,k3,oS,asI_int,hp1,q1,asC_c,asB_bool]
  cases hPy:P y with
  |false=>
   simp only[Bool.not_false,iT,eI]
   exact ihe (k+1) H bf c op mk (by omega) ho hd' (hI.skip hget' fun h=>by rw[hPy]at h;cases h)
  |true=>
   simp only[Bool.not_true,bF,iF,hq1,q2,oS,asC_c,asB_bool,asF_func]
   cases hQy:Q y with
   |true=>
    obtain⟨l,l1,l2,l3⟩:=hI.found hy1 hyn hPy hQy hm
    have hlt':=I.lt
    have hjp:H.get jp=some (.cells 1 [.slice jb 0 n]):=by rw[ho.fr jp (by omega) (by omega)];exact I.pt
    have ln: ∀z∈l,z<n:=fun z hz=>l3.lt z (mA.2 (.inl (List.mem_reverse.2 hz)))
    obtain⟨H',c',z1,z2,z3⟩:=Y0d (M:=M) (n:=n) (b1:=H1.next) (by have:=I.hl;omega) (by omega) (by omega) l1 H .nilSlice [] ln (by simp;omega) ho.tb hjp (Own.nil ho.nx 1)
    rw[List.nil_append]at z2
    have e2:(l.map fun x=>((x:Nat):Int)).reverse=natI l.reverse:=by simp[natI]
    rw[e2]at z2
    have z1':mcall M 111 (([]:List C).map V.c++[.c (.int .i64 (x:Int))]++[C.ptr jp 0].map V.c) H=some (.c c',H'):=by
     have:f111 M (x:Int) (.ptr jp 0) H=some (.c c',H'):=by rw[Q1M];exact z1
     exact this
    obtain⟨a1,c2,H2,a2,a3,a4,a5⟩:=z2.append1 (lim:=M.lim) (by have:=I.hl;omega) (y:Int) (by rw[q0m,List.length_reverse];omega)
    refine .inl ⟨H2,c2,l.reverse++[y], ?_,a3.1,fun i hi hne=> ?_,by rw[z0H];exact a3,l3⟩
    ·simp only[iT,z1',oS,asC_c,a1,a2]
    ·rw[a4.keep i (by have:=z2.1;omega) fun o s e=>by
      rcases z2.2.2 with⟨e',_⟩ |⟨i',o',cs,e',h2,_⟩
      ·rw[e]at e';cases e'
      ·rw[e]at e';cases e';omega,z3 i hi]
     exact ho.fr i hi hne
   |false=>
    simp only[bF,iF,asP_ptr,ho.ldp I,oS,q0i hyn,ho.ldb hyn,asI_int]
    by_cases hb:bf y= -2
    ·obtain⟨H8,m1,m2⟩:=ho.set I hyn (x:Int)
     have hml:=hI.m.len
     obtain⟨q3,c',H',q4,q5⟩:=m2.push I (y:Int) (by omega)
     have hnl:mk.length<n:=by
      have h9:=(hI.mark hT hget' hyn hPy hQy hb).m.len
      rw[List.length_append]at h9;simp at h9;omega
     simp only[hb,dY,iT,m1,oS,q3,q4,W0Z,eI]
     exact ihe (k+1) H' _ c' _ _ (by omega) q5 (by simp only[List.length_append,List.length_cons,List.length_nil];omega) (hI.mark hT hget' hyn hPy hQy hb)
    ·simp only[hb,dF,bF,iF,W0Z,eI]
     exact ihe (k+1) H bf c op mk (by omega) ho hd' (hI.skip hget' fun _=>⟨(hI.m.iff y).1 hb,hQy⟩)
theorem j1d(h0:m=0-> ∀s,src s->Q s=false): ∀(d:Nat),d<=3000000-> ∀(H:Heap) (bf:Nat->Int) (c:C) (op:List Int) (mk:List Nat),Wq H1 jp jb n H bf c op->(n - mk.length)+op.length<=d->WS rows n P Q src bf mk op none->WayEnd H1 jb n m rows P Q src (f99_3 M g pm ak (.ptr jp 0) c (.func 111 [] [.ptr jp 0]) H):=by
 have stop: ∀(H:Heap) (bf:Nat->Int) (c:C) (mk:List Nat),Wq H1 jp jb n H bf c []->WS rows n P Q src bf mk [] none->WayEnd H1 jb n m rows P Q src (f99_3 M g pm ak (.ptr jp 0) c (.func 111 [] [.ptr jp 0]) H):=fun H bf c mk ho hI=>by
  refine .inr ⟨H, ?_,ho.nx,ho.fr,h0,fun s u w h1 h2 h3 h4=>hI.done h1 h2 h3 h4⟩
  rw[W0X]
  have hlen:C.len c=some 0:=by have:=ho.qq.ints.len;simpa using this
  simp only[hlen,oS,show¬((0:Int)<((0:Nat):Int)) by omega,dF,bF,iF]
 intro d
 induction d with
 |zero=>
  intro _ H bf c op mk ho hd hI
  have:op=[]:=List.length_eq_zero_iff.1 (by omega)
  subst this
  exact stop H bf c mk ho hI
 |succ d ih=>
  intro hdn H bf c op mk ho hd hI
  cases op with
  |nil=>exact stop H bf c mk ho hI
  |cons x op=>
   obtain⟨j,rfl,g3⟩:=hI.ops x (by simp)
   have g2:=hI.m.lt j g3
   obtain⟨p,c5,p1,p2,p3,p4⟩:=ho.pop (lim:=M.lim)
   have hr:rows[j]? =some (rows[j]'(by rw[hT.1];exact g2)):=q0a (by rw[hT.1];exact g2)
   obtain⟨i1,o1,c7,r1,r2,r3,r4⟩:=rdL hg hr
   have r3':Heap.ld H i1 o1=some c7:=by
    have hk:=(ho.frB I f1).old i1 (hF i1 r2)
    unfold Heap.ld at r3⊢
    rw[hk];exact r3
   have hlen:C.len c=some (op.length+1):=by have:=ho.qq.ints.len;simpa using this
   have hrl:=X0i r4
   simp only[List.length_cons]at hd
   have:=j1c I f1 hF hg hT hn hP hQ hm (src:=src) g2 hr r4 (d:=d) (by omega) (ih (by omega)) _ 0 H bf c5 op mk (Nat.zero_add _) p4 (by omega) hI.take
   rw[W0X]
   simp only[hlen,oS,show((0:Int)<((op.length+1:Nat):Int)) by omega,dY,iT,p1,p2,asI_int,p3,r1,r3',hrl]
   exact this
end
section
variable{M:Mach}{b:Nat}{H0 H1:Heap}{F:Nat->Prop}{jp jb n m:Nat}{g pm ak:C}{bb:Bool}{rows:List (Bool×List Int)}{from':List Nat}{P Q:Nat->Bool}
variable(I:Wid M b H1 jp jb n)(f1:FrB b H0 H1)(hF: ∀i,F i->i<b)(hg:UC H0 F (uLs bb rows) [g])(hT:Table n rows)(hn:n<=1000000)(hP:PredC M b H0 pm n P)(hQ:PredC M b H0 ak n Q)(hm:m<=1)
variable{vf:C}(hv:RdI b H0 vf (natI from'))(hfl:from'.length<=1000000)(hfn: ∀s∈from',s<n)
include I f1 hF hg hT hn hP hQ hm hv hfl hfn
theorem j1e: ∀(d i:Nat) (H:Heap) (bf:Nat->Int) (c:C) (mk:List Nat),i+d=from'.length->Wq H1 jp jb n H bf c (natI mk)->WM (nxL rows) P (· ∈from') n bf mk->(∀s∈from'.take i,s∈mk)->(m=0-> ∀s∈from'.take i,Q s=false)->
  WayEnd H1 jb n m rows P Q (· ∈from') (f99_1 M g (m:Int) pm ak (.ptr jp 0) c (.func 111 [] [.ptr jp 0]) vf (from'.length:Int) (i:Int) H):=by
 intro d
 induction d with
 |zero=>
  intro i H bf c mk hi ho hw h1 h2
  rw[List.take_of_length_le (by omega)]at h1 h2
  rw[W0V]
  simp only[show¬((i:Int)<(from'.length:Int)) by omega,dF,bF,iF]
  have hml:=hw.len
  refine j1d I f1 hF hg hT hn hP hQ hm h2 (n - mk.length+(natI mk).length) (by rw[q0m];omega) H bf c (natI mk) mk ho (nR _) ⟨hw,fun x hx=> ?_,h1,fun x hx=> .inl (List.mem_map.2 ⟨x,hx,rfl⟩),fun x k e=>(by cases e)⟩
  obtain⟨y,y1,y2⟩:=List.mem_map.1 hx
  exact⟨y,y2.symm,y1⟩
 |succ d ih=>
  intro i H bf c mk hi ho hw h1 h2
  have hlt:i<from'.length:=by omega
  have hgi:from'[i]? =some from'[i]:=q0a hlt
  generalize hs:from'[i]=s at hgi
  have hsm:s∈from':=List.mem_of_getElem? hgi
  have hsn:=hfn s hsm
  have htk:from'.take (i+1)=from'.take i++[s]:=by rw[List.take_succ,hgi];rfl
  have fH:=ho.frB I f1
  obtain⟨⟨i2,o2⟩,k1,k2⟩:=hv.2 H fH i (s:Int) (z0G hgi)
  have eI:IntKind.wrap .i64 ((i:Int)+1)=((i+1:Nat):Int):=q0b (by omega)
  obtain⟨q,hq1,hq2⟩:=hQ
  have q2:=hq2 H fH s hsn
  have go:(m=0->Q s=false)->WayEnd H1 jb n m rows P Q (· ∈from') ((Heap.ld H jb s).bind fun c13=>(C.asI .i64 c13).bind fun n14=>
    (if(decide (n14=(-2)))=true then
    (V.asP (.c (C.ptr jp 0))).bind fun a15=>
    (Heap.ld H a15.1 a15.2).bind fun c16=>
    (C.elem 1 c16 (s:Int)).bind fun q17=>
    (Heap.st M.lim H q17.1 q17.2 [(.int .i64 (-1))]).bind fun H18=>
    let H19:=Heap.alloc H18 (.cells 1 [(.int .i64 (s:Int))])
    (Heap.cellsOf H19 1 (.slice H18.next 0 1)).bind fun xs20=>
    (Heap.app M.lim H19 1 c xs20 1).bind fun q21=>
    f99_2 M g (m:Int) pm ak (.ptr jp 0) q21.1 (.func 111 [] [.ptr jp 0]) vf (from'.length:Int) (i:Int) q21.2
    else
    f99_2 M g (m:Int) pm ak (.ptr jp 0) c (.func 111 [] [.ptr jp 0]) vf (from'.length:Int) (i:Int) H)):=by
   intro hQs
   have h2':m=0-> ∀z∈from'.take (i+1),Q z=false:=fun hm0 z hz=>by
    rw[htk]at hz
    rcases mA.1 hz with g |g
    ·exact h2 hm0 z g
    ·rw[show z=s by simpa using g];exact hQs hm0
   by_cases hb:bf s= -2
   ·obtain⟨H8,m1,m2⟩:=ho.set I hsn (-1)
    have hml:=hw.len
    obtain⟨q3,c',H',q4,q5⟩:=m2.push I (s:Int) (by rw[q0m];omega)
    simp only[ho.ldb hsn,oS,asI_int,hb,dY,iT,asP_ptr,ho.ldp I,q0i hsn,m1,q3,q4,W0W,eI]
    refine ih (i+1) H' _ c' (mk++[s]) (by omega) (by rw[z0H];exact q5) (hw.add hsn hb (.inl ⟨rfl,hsm⟩)) (fun z hz=> ?_) h2'
    rw[htk]at hz
    rcases mA.1 hz with g |g
    ·exact mA.2 (.inl (h1 z g))
    ·exact mA.2 (.inr g)
   ·simp only[ho.ldb hsn,oS,asI_int,hb,dF,bF,iF,W0W,eI]
    refine ih (i+1) H bf c mk (by omega) ho hw (fun z hz=> ?_) h2'
    rw[htk]at hz
    rcases mA.1 hz with g |g
    ·exact h1 z g
    ·rw[show z=s by simpa using g];exact(hw.iff s).1 hb
  rw[W0V]
  simp only[show((i:Int)<(from'.length:Int)) by omega,dY,iT,k1,k2,oS,asI_int]
  by_cases hm0:m=0
  ·have e0:((m:Int)=0):=by omega
   simp only[e0,dY,iT,hq1,q2,oS,asC_c,asB_bool]
   cases hQs:Q s with
   |true=>
    simp only[iT]
    refine .inl ⟨_,_,[s],rfl,nT ho.nx (Nat.le_succ _),fun j hj hne=>by rw[q0d (by have:=ho.nx;omega)];exact ho.fr j hj hne,OInts.lit H ho.nx [(s:Int)] rfl rfl,⟨trivial,⟨s,rfl,hsm⟩,⟨s,rfl,hQs⟩,⟨by simp;omega,by simp⟩,fun z hz=>by rw[show z=s by simpa using hz];exact hsn⟩⟩
   |false=>
    have:=go fun _=>hQs
    rw[show(0:Int)=(m:Int) by omega]
    simp only[bF,iF,asP_ptr,ho.ldp I,oS,q0i hsn]at this⊢
    exact this
  ·have e0: ¬((m:Int)=0):=by omega
   have:=go fun h=>absurd h hm0
   simp only[e0,dF,bF,iF,oS,asP_ptr,ho.ldp I,q0i hsn]at this⊢
   exact this
end
section
variable{lim:Nat}{M:YM}(hM:CallsY lim M.ext){H:Heap}{F:Nat->Prop}{n m:Nat}{g pm ak:C}{bb:Bool}{rows:List (Bool×List Int)}{from':List Nat}{P Q:Nat->Bool}
variable(hl:lim<=H.next)(hF: ∀i,F i->i<H.next)(hg:UC H F (uLs bb rows) [g])(hT:Table n rows)(hn:n<=1000000)(hP:PredC (MH lim) H.next H pm n P)(hQ:PredC (MH lim) H.next H ak n Q)(hm:m<=1)
variable{vf:C}(hv:RdI H.next H vf (natI from'))(hfl:from'.length<=1000000)(hfn: ∀s∈from',s<n)
include hM hl hF hg hT hn hP hQ hm hv hfl hfn
theorem j1f:(∃H' c l,f99 (MH lim) g vf (m:Int) pm ak H=some (.tuple [.c c, .c (.bool true)],H')/\Grow H H'/\OInts H' H.next c (natI l)/\WayR (nxL rows) P Q (· ∈from') n m l)\/
  (∃H',f99 (MH lim) g vf (m:Int) pm ak H=some (.tuple [.c .nilSlice, .c (.bool false)],H')/\Grow H H'/\NoWay (nxL rows) P Q (· ∈from') m):=by
 have hk:C.len g=some n:=by have:=UC.lenC hg;rw[<-hT.1];simpa using this
 have o1:Ints (H.alloc (.cells 1 [.int .i64 (-2)])) (.slice H.next 0 1) [-2]:=⟨fun r hr=>by obtain⟨x,_,rfl⟩:=List.mem_map.1 hr;rfl, .inr ⟨H.next,0,1,_,rfl,by simp,alloc_new _ _,by simp,rfl⟩⟩
 obtain⟨jb,H3,h1,h2,h3,h4,h5⟩:=w1Z hM o1 (n:=n) hn (by simp;omega)
 have n5:=h2.next
 simp only[alloc_next]at n5 h3
 have st1:=q0s (lim:=(MH lim).lim) (x:= .slice jb 0 n) (alloc_new H3 (.cells 1 [C.nilSlice])) (show lim<=H3.next by omega) (o:=0) (by simp)
 generalize hH6:(H3.alloc (.cells 1 [C.nilSlice])).put H3.next _=H6 at st1
 have g6:H6.get H3.next=some (.cells 1 [.slice jb 0 n]):=by rw[<-hH6,put_same];rfl
 have k6: ∀i,i<H3.next->H6.get i=H3.get i:=fun i hi=>by rw[<-hH6,q0c (by omega),q0d hi]
 have n6:H6.next=H3.next+1:=by rw[<-hH6];rfl
 have k0: ∀i,i<H.next->H6.get i=H.get i:=fun i hi=>by rw[k6 i (by omega),h2.keep i (by simp;omega),q0d hi]
 have f1:FrB H.next H H6:=⟨by omega,k0⟩
 have I:Wid (MH lim) H.next H6 H3.next jb n:=⟨hl,⟨by omega,by omega,by omega,by omega,by omega⟩,g6⟩
 have tb0:H6.get jb=some (.cells 1 (fc n fun _=> -2)):=by rw[k6 jb h4,h5,<-w0B]
 have w0:Wq H6 H3.next jb n H6 (fun _=> -2) .nilSlice (natI []):=⟨tb0,Own.nil (nR _) 1,fun _ _ _=>rfl⟩
 have hfv:C.len vf=some from'.length:=by have:=hv.1;rwa [q0m]at this
 have key:=j1e I f1 hF hg hT hn hP hQ hm hv hfl hfn from'.length 0 H6 (fun _=> -2) .nilSlice [] (by omega) w0 WM.nil (fun s h=>by simp at h) (fun _ s h=>by simp at h)
 have e:f99 (MH lim) g vf (m:Int) pm ak H=f99_1 (MH lim) g (m:Int) pm ak (.ptr H3.next 0) .nilSlice (.func 111 [] [.ptr H3.next 0]) vf (from'.length:Int) ((0:Nat):Int) H6:=by
  rw[Z1W]
  simp only[hk,h1,st1,hfv,oS,asC_c]
  rfl
 rw[e]
 have gr: ∀H':Heap,H6.next<=H'.next->(∀i,i<H6.next->i≠jb->H'.get i=H6.get i)->Grow H H':=fun H' a1 a2=>⟨by omega,fun i hi=>by rw[a2 i (by omega) (by omega),k0 i hi]⟩
 rcases key with⟨H',c,l,a1,a2,a3,a4,a5⟩ |⟨H',a1,a2,a3,a4⟩
 ·exact .inl ⟨H',c,l,a1,gr H' a2 a3,Own.low a4 (by omega),a5⟩
 ·exact .inr ⟨H',a1,gr H' a2 a3,a4⟩
end
section
variable{nx:Nat->List Nat}{P P':Nat->Bool}
theorem X0m{u v:Nat}(h:Rch nx u v):u=v\/ ∃w,Rch nx u w/\v∈nx w:=by
 induction h with
 |refl=>exact .inl rfl
 | @step u w v h1 h2 ih=>
  rcases ih with e |⟨w',a,b⟩
  ·subst e;exact .inr ⟨u, .refl u,h1⟩
  ·exact .inr ⟨w', .step h1 a,b⟩
theorem Both.symm{u v:Nat}(h:Both nx u v):Both nx v u:=⟨h.2,h.1⟩
theorem Both.trans{u v w:Nat}(h:Both nx u v)(k:Both nx v w):Both nx u w:=⟨h.1.trans k.1,k.2.trans h.2⟩
theorem Q1a{g:Nat}(hP: ∀y,Both nx g y->P y=true){x y:Nat}(h:Rch nx x y):Both nx g x->Both nx g y->Rch (fun z=>(nx z).filter P) x y:=by
 induction h with
 |refl=>exact fun _ _=> .refl _
 | @step u w v h1 h2 ih=>
  intro hx hy
  have hw:Both nx g w:=⟨hx.1.trans (.one h1),h2.trans hy.2⟩
  exact .step (List.mem_filter.2 ⟨h1,hP w hw⟩) (ih hw hy)
theorem J1u{g:Nat}(hP: ∀y,Both nx g y->P y=true)(hi: ∃a b,b∈nx a/\Both nx g a/\Both nx g b){x t:Nat}(hx:Both nx g x)(ht:Both nx g t): ∃u,Rch (fun z=>(nx z).filter P) x u/\t∈nx u/\P t=true:=by
 obtain⟨a,b,hab,ga,gb⟩:=hi
 have h1:=Q1a hP (hx.2.trans ga.1) hx ga
 have h2:=Q1a hP (gb.2.trans ht.1) gb ht
 rcases X0m h2 with e |⟨w,w1,w2⟩
 ·subst e;exact⟨a,h1,hab,hP _ ht⟩
 ·exact⟨w,h1.trans (.step (List.mem_filter.2 ⟨hab,hP b gb⟩) w1),(List.mem_filter.1 w2).1,hP t ht⟩
theorem Leads.all: ∀{a:Nat} {r:List Nat},Leads nx P (a::r)-> ∀y∈r,P y=true
 |a,[],_,y,hy=>by cases hy
 |a,b::r,h,y,hy=>by
  rcases mC.1 hy with e |e
  ·rw[e];exact h.2.1
  ·exact Leads.all h.2.2 y e
theorem Leads.mono(h: ∀y,P y=true->P' y=true): ∀{l:List Nat},Leads nx P l->Leads nx P' l
 | [],_=>trivial
 | [_],_=>trivial
 |a::b::r,hl=>⟨hl.1,h b hl.2.1,Leads.mono h (l:=b::r) hl.2.2⟩
end
def cnt(ls:List (List Bool))(g:Nat):Nat->Nat
 | 0=>0
 |k+1=>cnt ls g k+if(ls.getD k []).getD g false=true then 0 else 1
theorem q1Z(ls:List (List Bool))(g:Nat): ∀k,cnt ls g k<=k
 | 0=>nR _
 |k+1=>by
  have:=q1Z ls g k
  simp only[cnt];split<;>omega
theorem j1a{ls:List (List Bool)}{g:Nat}(h:(ls.getD 0 []).getD g false=true): ∀k,cnt ls g (k+1)<=k
 | 0=>by simp only[cnt,if_pos h];omega
 |k+1=>by
  have:=j1a h k
  show cnt ls g (k+1)+_<=k+1
  split<;>omega
theorem inB_getD{l:List Bool}{g:Nat}:l.getD g false=true↔inB l g:=by
 rw[lG]
 unfold inB
 cases l[g]? with
 |none=>simp
 |some b=>simp
structure LpI (nx:Nat->List Nat) (g n:Nat) (P:Nat->Bool) (ls:List (List Bool)) (k:Nat) (lp:List Nat):Prop where
 head:lp.head?=some g
 lead:Leads nx P lp
 both: ∀x∈lp,Both nx g x
 meets: ∀j,j<k-> ∃t∈lp,inB (ls.getD j []) t
 len:lp.length<=1+n*cnt ls g k
 lt: ∀x∈lp,x<n
section
variable{nx:Nat->List Nat}{g n:Nat}{P Q:Nat->Bool}{ls:List (List Bool)}{k:Nat}{lp:List Nat}
theorem LpI.start(hg:g<n):LpI nx g n P ls 0 [g]:=
 ⟨rfl,trivial,fun x hx=>by rw[show x=g by simpa using hx];exact Both.refl nx g,fun j hj=>absurd hj (Nat.not_lt_zero _),by simp[cnt],fun x hx=>by rw[show x=g by simpa using hx];exact hg⟩
theorem LpI.skip(h:LpI nx g n P ls k lp)(hk: ∃t∈lp,inB (ls.getD k []) t):LpI nx g n P ls (k+1) lp:=
 ⟨h.head,h.lead,h.both,fun j hj=>by
  by_cases e:j=k
  ·subst e;exact hk
  ·exact h.meets j (by omega),by
  have:=h.len
  have h2:cnt ls g k<=cnt ls g (k+1):=by simp only[cnt];omega
  have:=Nat.mul_le_mul_left n h2
  omega,h.lt⟩
theorem J0A{x:Nat}{l:List Nat}(h:WayR nx P Q (· ∈[x]) n 1 l): ∃r,l=x::r/\r≠[]/\r.length<=n/\ ∃w,r.getLast?=some w/\Q w=true:=by
 obtain⟨s,h1,h2⟩:=h.first
 obtain⟨w,h3,h4⟩:=h.last
 have hl:=h.len
 cases l with
 |nil=>cases h1
 |cons a r=>
  have e:a=x:=by
   cases h1;simpa using h2
  subst e
  cases r with
  |nil=>simp at hl
  |cons b r=>
   refine⟨b::r,rfl,by simp,by simp at hl⊢;omega,w, ?_,h4⟩
   rw[<-h3,List.getLast?_cons_cons]
theorem LpI.ne(h:LpI nx g n P ls k lp):lp≠[]:=fun e=>by have:=h.head;rw[e]at this;cases this
theorem LpI.leg(h:LpI nx g n P ls k lp)(hP: ∀y,y<n->P y=true->Both nx g y){x:Nat}(hx:lp.getLast?=some x){r:List Nat}(hw:WayR nx P Q (· ∈[x]) n 1 (x::r))(hr:r≠[]):Leads nx P (lp++r)/\(∀y∈r,Both nx g y)/\ ∀y∈r,y<n:=
 ⟨h.lead.join hx hw.lead,fun y hy=>hP y (hw.lt y (by simp[hy])) (hw.lead.all y hy),fun y hy=>hw.lt y (by simp[hy])⟩
theorem LpI.more(h:LpI nx g n P ls k lp)(hP: ∀y,y<n->P y=true->Both nx g y)(hno: ¬ ∃t∈lp,inB (ls.getD k []) t){x:Nat}(hx:lp.getLast?=some x){r:List Nat}(hw:WayR nx P Q (· ∈[x]) n 1 (x::r))(hQ: ∀w,Q w=true->inB (ls.getD k []) w):LpI nx g n P ls (k+1) (lp++r):=by
 obtain⟨r',e,r1,r2,w,r3,r4⟩:=J0A hw
 cases e
 obtain⟨a1,a2,a3⟩:=h.leg hP hx hw r1
 refine⟨?_,a1,fun y hy=> ?_,fun j hj=> ?_, ?_,fun y hy=> ?_⟩
 ·rw[List.head?_append,h.head];rfl
 ·rcases mA.1 hy with e |e
  ·exact h.both y e
  ·exact a2 y e
 ·by_cases e:j=k
  ·subst e
   exact⟨w,mA.2 (.inr (List.mem_of_getLast? r3)),hQ w r4⟩
  ·obtain⟨t,t1,t2⟩:=h.meets j (by omega)
   exact⟨t,mA.2 (.inl t1),t2⟩
 ·have hgm:g∈lp:=List.mem_of_head? h.head
  have hng: ¬(ls.getD k []).getD g false=true:=fun e=>hno ⟨g,hgm,inB_getD.1 e⟩
  have:=h.len
  simp only[cnt,if_neg hng,List.length_append]
  rw[Nat.mul_add]
  omega
 ·rcases mA.1 hy with e |e
  ·exact h.lt y e
  ·exact a3 y e
end
structure LassoR (nx:Nat->List Nat) (n:Nat) (src:Nat->Prop) (may:Nat->Bool) (ls:List (List Bool)) (pre lp:List Nat):Prop where
 lead: ∃g,lp.head?=some g/\may g=true/\Leads nx (fun _=>true) (pre++lp++[g])/\lp.length<=n+n*cnt ls g ls.length
 first: ∃s,(pre++lp).head?=some s/\src s
 meets: ∀j,j<ls.length-> ∃t∈lp,inB (ls.getD j []) t
 plen:pre.length<=n
 lt: ∀x∈pre++lp,x<n
section
variable{nx:Nat->List Nat}{g n:Nat}{P Q Q':Nat->Bool}{ls:List (List Bool)}{lp:List Nat}{src:Nat->Prop}{may:Nat->Bool}
theorem LpI.close(h:LpI nx g n P ls ls.length lp)(hP: ∀y,y<n->P y=true->Both nx g y){x:Nat}(hx:lp.getLast?=some x){r:List Nat}(hw:WayR nx P Q (· ∈[x]) n 1 (x::(r++[g])))(hm:may g=true){pre:List Nat}(hp:WayR nx (fun _=>true) Q' src n 0 (pre++[g])):LassoR nx n src may ls pre (lp++r):=by
 obtain⟨a1,a2,a3⟩:=h.leg hP hx hw (by simp)
 have hl:=hw.len
 have hpl:=hp.len
 have hlead:Leads nx (fun _=>true) (lp++(r++[g])):=a1.mono fun _ _=>rfl
 obtain⟨lp',e⟩: ∃lp',lp=g::lp':=by
  cases lp with
  |nil=>exact absurd rfl h.ne
  |cons a l=>have:=h.head;cases this;exact⟨l,rfl⟩
 refine⟨⟨g, ?_,hm, ?_, ?_⟩, ?_,fun j hj=> ?_, ?_,fun y hy=> ?_⟩
 ·rw[List.head?_append,h.head];rfl
 ·have:Leads nx (fun _=>true) ((pre++[g])++(lp'++(r++[g]))):=by
   refine hp.lead.join (v:=g) (by simp) ?_
   rw[e]at hlead
   exact hlead
  rw[e]
  simpa using this
 ·have:=h.len
  simp only[List.length_cons,List.length_append,List.length_nil]at hl⊢
  omega
 ·obtain⟨s,s1,s2⟩:=hp.first
  refine⟨s, ?_,s2⟩
  rw[<-s1,e]
  cases pre<;>rfl
 ·obtain⟨t,t1,t2⟩:=h.meets j hj
  exact⟨t,mA.2 (.inl t1),t2⟩
 ·simp only[List.length_append,List.length_cons,List.length_nil]at hpl;omega
 ·rcases mA.1 hy with e |e
  ·exact hp.lt y (mA.2 (.inl e))
  ·rcases mA.1 e with e |e
   ·exact h.lt y e
   ·exact a3 y (mA.2 (.inl e))
theorem K1v(hP: ∀y,Both nx g y->P y=true)(hi: ∃a b,b∈nx a/\Both nx g a/\Both nx g b){x t:Nat}(hx:Both nx g x)(ht:Both nx g t)(hq:Q t=true): ¬NoWay nx P Q (· ∈[x]) 1:=by
 intro h
 obtain⟨u,u1,u2,u3⟩:=J1u hP hi hx ht
 have:=h.2 x u t (by simp) u1 u2 u3
 rw[hq]at this;cases this
theorem j1b{may good:Nat->Bool}(h:NoWay nx (fun _=>true) (fun v=>good v&&may v) src 0){s v:Nat}(hs:src s)(hv:Rch nx s v)(hg:good v=true):may v=false:=by
 have e:(fun x=>(nx x).filter fun _=>true)=nx:=by funext x;simp
 have:(good v&&may v)=false:=by
  rcases X0m hv with e2 |⟨w,w1,w2⟩
  ·subst e2;exact h.1 rfl s hs
  ·exact h.2 s w v hs (by rw[e];exact w1) w2 rfl
 rw[hg,Bool.true_and]at this
 exact this
end
theorem k0u{H:Heap}{b:Nat}{c:C}{l1 l2 l3:List Int}(lim:Nat)(h:OInts H b c (l1++l2++l3)): ∃c',Heap.sub lim H 1 c (l1.length:Int) (some ((l1.length+l2.length:Nat):Int))=some c'/\OInts H b c' l2:=by
 obtain⟨hb,hr,⟨rfl,h3⟩ |⟨i,o,cs,rfl,h3,h4,h5,h6,h7⟩⟩:=h
 ·have e:l1++l2++l3=[]:=by simpa using h3
  simp only[List.append_eq_nil_iff]at e
  obtain⟨⟨rfl,rfl⟩,rfl⟩:=e
  exact⟨.nilSlice,rfl,hb,fun r hr=>(by cases hr), .inl ⟨rfl,rfl⟩⟩
 ·simp only[List.length_map,Nat.mul_one]at h6 h7
  rw[j0g]at h7
  have hbad:H.szBad i 1=false:=by simp[Heap.szBad,h5]
  simp only[List.length_append]at h6 h7
  refine⟨.slice i (o+l1.length) l2.length, ?_,hb,fun r hr=>by obtain⟨y,_,rfl⟩:=List.mem_map.1 hr;rfl, .inr ⟨i,o+l1.length,cs,by simp,h3,h4,h5,by simp;omega, ?_⟩⟩
  ·simp only[Heap.sub,hbad,bF,and_false,iF,Option.getD_some,List.length_map,List.length_append]
   rw[if_pos ⟨by omega,by omega,by omega⟩]
   simp
   omega
  ·rw[j0g,List.length_map,Nat.mul_one]
   have e:(cs.drop (o+l1.length)).take l2.length=(((cs.drop o).take (l1.length+l2.length+l3.length)).drop l1.length).take l2.length:=by
    rw[List.drop_take,List.take_take,List.drop_drop,Nat.min_eq_left (by omega)]
   rw[e,h7,List.map_append,List.map_append,List.append_assoc,List.drop_append_of_le_length (by simp),dL (by simp),List.nil_append,List.take_append_of_le_length (by simp),List.take_of_length_le (by simp)]
theorem k0X{H:Heap}{b:Nat}{c:C}{l1 l2:List Int}(lim:Nat)(h:OInts H b c (l1++l2)): ∃c',Heap.sub lim H 1 c (l1.length:Int) none=some c'/\OInts H b c' l2:=by
 obtain⟨c',h1,h2⟩:=k0u (l3:=[]) lim (by rw[List.append_nil];exact h)
 refine⟨c', ?_,h2⟩
 rw[<-h1]
 have hl:C.len c=some (l1.length+l2.length):=by rw[h.ints.len,List.length_append]
 cases c with
 |slice i o n=>
  have e:n=l1.length+l2.length:=by simpa[C.len]using hl
  subst e
  simp only[Heap.sub,Option.getD_none,Option.getD_some]
 |nilSlice=>
  have e:0=l1.length+l2.length:=by simpa[C.len]using hl
  simp only[Heap.sub,Option.getD_none,Option.getD_some]
  simp[<-e]
 |_=>cases hl
theorem w0W{H:Heap}{b:Nat}{c:C}{l:List Int}(h:OInts H b c l):H.cellsOf 1 c=some (l.map (C.int .i64)):=by
 have:=Sl.cellsOf h.ints
 rw[j0g]at this
 exact this
theorem w0z{H:Heap}{b:Nat}{c:C}{l:List Int}(h:OInts H b c l): ∀i o n,c= .slice i o n->i<H.next:=fun i o n e=>by
 rcases h.2.2 with⟨e',_⟩ |⟨i',o',cs,e',_,h2,_⟩
 ·rw[e]at e';cases e'
 ·rw[e]at e';cases e';exact h2
theorem q0P{H H':Heap}{b:Nat}{c:C}{l:List Int}(h:OInts H b c l)(g:Grow H H'):OInts H' b c l:=Own.grow h g
theorem Z0s{H:Heap}{lim b:Nat}{c:C}{l r:List Int}(h:OInts H b c l)(hl:lim<=b)(hroom:l.length+r.length<=2 ^ 36): ∃c' H',Heap.app lim H 1 c (r.map (C.int .i64)) r.length=some (c',H')/\OInts H' b c' (l++r)/\H.next<=H'.next/\ ∀i,i<b->H'.get i=H.get i:=by
 obtain⟨c',H',h1,h2,h3,_⟩:=Own.app h hl (rows':=r.map rowI) (fun x hx=>by obtain⟨y,_,rfl⟩:=List.mem_map.1 hx;rfl) (n:=r.length) (by simp) (by simpa using hroom)
 rw[j0g]at h1
 refine⟨c',H',h1, ?_,h3.next,fun i hi=>h3.keep i (by have:=h.1;omega) fun o n e=> ?_⟩
 ·rw[<-List.map_append]at h2;exact h2
 ·rcases h.2.2 with⟨e',_⟩ |⟨i',o',cs,e',h5,_⟩
  ·rw[e]at e';cases e'
  ·rw[e]at e';cases e';omega
theorem RdI.later{b b':Nat}{H H':Heap}{c:C}{l:List Int}(h:RdI b H c l)(f:FrB b H H')(hb:b<=b'):RdI b' H' c l:=
 ⟨h.1,fun X fX=>h.2 X ⟨nT hb fX.next,fun i hi=>by rw[fX.old i (by omega),f.old i hi]⟩⟩
theorem PredC.later{M:Mach}{b b' n:Nat}{H H':Heap}{c:C}{P:Nat->Bool}(h:PredC M b H c n P)(f:FrB b H H')(hb:b<=b'):PredC M b' H' c n P:=by
 obtain⟨q,h1,h2⟩:=h
 exact⟨q,h1,fun X fX=>h2 X ⟨nT hb fX.next,fun i hi=>by rw[fX.old i (by omega),f.old i hi]⟩⟩
section
variable{M:Mach}{b n:Nat}{H0 H:Heap}{s f:C}{P:Nat->Bool}{l:List Nat}(hs:RdI b H0 s (natI l))(hl:l.length<=1000000)(hn: ∀x∈l,x<n)(hf:PredC M b H0 f n P)(fH:FrB b H0 H)
include hs hl hn hf fH
theorem q1N: ∀(d i:Nat),i+d=l.length-> ∃k:Int,f91_1 M s f (l.length:Int) (i:Int) H=some (.c (.int .i64 k),H)/\((0<=k)↔ ∃x∈l.drop i,P x=true):=by
 obtain⟨q,h1,h2⟩:=hf
 intro d
 induction d with
 |zero=>
  intro i hi
  refine⟨-1, ?_, ?_⟩
  ·rw[J0n]
   simp only[show¬((i:Int)<(l.length:Int)) by omega,dF,bF,iF]
  ·rw[dL (by omega)];simp
 |succ d ih=>
  intro i hi
  have hlt:i<l.length:=by omega
  have hg:l[i]? =some l[i]:=q0a hlt
  have hx:=hn _ (lM hlt)
  obtain⟨q1,r1,r2⟩:=hs.2 H fH i _ (z0G hg)
  have hc:=h2 H fH _ hx
  obtain⟨k,k1,k2⟩:=ih (i+1) (by omega)
  have hd:l.drop i=l[i]::l.drop (i+1):=List.drop_eq_getElem_cons hlt
  cases hP:P l[i]with
  |true=>
   refine⟨i, ?_, ?_⟩
   ·rw[J0n]
    simp only[show((i:Int)<(l.length:Int)) by omega,dY,iT,r1,r2,oS,asI_int,h1,hc,asC_c,asB_bool,hP]
   ·exact⟨fun _=>⟨l[i],by rw[hd];exact List.mem_cons_self,hP⟩,fun _=>by omega⟩
  |false=>
   refine⟨k, ?_, ?_⟩
   ·rw[J0n]
    simp only[show((i:Int)<(l.length:Int)) by omega,dY,iT,r1,r2,oS,asI_int,h1,hc,asC_c,asB_bool,hP,bF,iF,q0b (show i<=1000000000 by omega),k1]
   ·rw[k2,hd]
    constructor
    ·rintro⟨x,x1,x2⟩;exact⟨x,List.mem_cons_of_mem _ x1,x2⟩
    ·rintro⟨x,x1,x2⟩
     rcases mC.1 x1 with e |e
     ·rw[e,hP]at x2;cases x2
     ·exact⟨x,e,x2⟩
theorem J1e:f61 M s f H=some (.c (.bool (l.any P)),H):=by
 obtain⟨k,k1,k2⟩:=q1N hs hl hn hf fH l.length 0 (by omega)
 have hlen:C.len s=some l.length:=by have:=hs.1;rwa [q0m]at this
 have e:f91 M s f H=some (.c (.int .i64 k),H):=by
  rw[Z1T]
  simp only[hlen,oS]
  exact k1
 rw[Z1O]
 simp only[e,oS,asC_c,asI_int]
 rw[List.drop_zero]at k2
 have e3:decide (0<=k)=l.any P:=by rw[Bool.eq_iff_iff,dE,k2,List.any_eq_true]
 rw[e3]
end
theorem rdS{H:Heap}{F:Nat->Prop}{b:Bool}{ls:List (List Bool)}{c:C}(h:UC H F (.sl b (ls.map setU)) [c]){k:Nat}{x:List Bool}(hk:ls[k]? =some x): ∃i o c2,C.elem 1 c (k:Int)=some (i,o)/\F i/\H.ld i o=some c2/\UC H F (setU x) [c2]:=by
 obtain⟨i,o,z,cs,e1,e2,e3,e4,e5⟩:=h.elem (k:=k) (u:=setU x) (by simp[hk])
 have hsz:(setU x).size=1:=rfl
 rw[hsz]at e1 e4 e5
 have hlen:((cs.drop o).take 1).length=1:=by rw[List.length_take,List.length_drop];omega
 match hc:(cs.drop o).take 1,hlen with
 | [c2],_=>
  rw[hc]at e5
  exact⟨i,o,c2,e1,e2,ldX e3 (z0x hc),e5⟩
theorem rdB{H:Heap}{F:Nat->Prop}{l:List Bool}{c:C}(h:UC H F (setU l) [c]){k:Nat}{b:Bool}(hk:l[k]? =some b): ∃i o,C.elem 1 c (k:Int)=some (i,o)/\F i/\H.ld i o=some (.bool b):=by
 obtain⟨i,o,z,cs,e1,e2,e3,e4,e5⟩:=h.elem (k:=k) (u:= .c (.bool b)) (q0Y hk)
 exact⟨i,o,e1,e2,ldX e3 (z0x e5.2)⟩
theorem lenS{H:Heap}{F:Nat->Prop}{b:Bool}{ls:List (List Bool)}{c:C}(h:UC H F (.sl b (ls.map setU)) [c]):C.len c=some ls.length:=by have:=UC.lenC h;simpa using this
section
variable{M:Mach}{b n:Nat}{H0:Heap}{F:Nat->Prop}
theorem J1f{l:List Bool}{c2:C}{j:Nat}(hF: ∀i,F i->i<b)(hl:l.length=n)(hu:UC H0 F (setU l) [c2])(hj:j<b)(hg:H0.get j=some (.cells 1 [c2])):PredC M b H0 (.func 102 [] [.ptr j 0]) n (fun v=>l.getD v false):=by
 refine⟨_,rfl,fun H f v hv=> ?_⟩
 have hvl:v<l.length:=by omega
 obtain⟨i,o,r1,r2,r3⟩:=rdB (j0F hu f hF) (q0a hvl)
 have e:H.get j=some (.cells 1 [c2]):=by rw[f.old j hj];exact hg
 have:f102 M (v:Int) (.ptr j 0) H=some (.c (.bool l[v]),H):=by
  rw[Q1I]
  simp only[asP_ptr,oS,q0f e,List.getElem?_cons_zero,r1,r3,asB_bool]
 have e2:l.getD v false=l[v]:=by rw[lG,q0a hvl];rfl
 show mcall M 102 _ H=some (.c (.bool (l.getD v false)),H)
 rw[e2]
 exact this
theorem J1g{l:List Bool}{c2:C}{j:Nat}(hF: ∀i,F i->i<b)(hl:l.length=n)(hu:UC H0 F (setU l) [c2])(hj:j<b)(hg:H0.get j=some (.cells 1 [c2])):PredC M b H0 (.func 103 [] [.ptr j 0]) n (fun v=>l.getD v false):=by
 refine⟨_,rfl,fun H f v hv=> ?_⟩
 have hvl:v<l.length:=by omega
 obtain⟨i,o,r1,r2,r3⟩:=rdB (j0F hu f hF) (q0a hvl)
 have e:H.get j=some (.cells 1 [c2]):=by rw[f.old j hj];exact hg
 have:f103 M (v:Int) (.ptr j 0) H=some (.c (.bool l[v]),H):=by
  rw[Q1J]
  simp only[asP_ptr,oS,q0f e,List.getElem?_cons_zero,r1,r3,asB_bool]
 have e2:l.getD v false=l[v]:=by rw[lG,q0a hvl];rfl
 show mcall M 103 _ H=some (.c (.bool (l.getD v false)),H)
 rw[e2]
 exact this
theorem J1h{j g:Nat}(hj:j<b)(hg:H0.get j=some (.cells 1 [.int .i64 (g:Int)])):PredC M b H0 (.func 104 [] [.ptr j 0]) n (fun v=>decide (v=g)):=by
 refine⟨_,rfl,fun H f v hv=> ?_⟩
 have e:H.get j=some (.cells 1 [.int .i64 (g:Int)]):=by rw[f.old j hj];exact hg
 have:f104 M (v:Int) (.ptr j 0) H=some (.c (.bool (decide (v=g))),H):=by
  rw[Q1K]
  have e2:decide ((v:Int)=(g:Int))=decide (v=g):=by rw[decide_eq_decide];omega
  simp only[asP_ptr,oS,q0f e,List.getElem?_cons_zero,asI_int,e2]
 exact this
theorem K1k:PredC M b H0 (.func 98 [] []) n (fun _=>true):=⟨_,rfl,fun H f v hv=>by
 have:f98 M (v:Int) H=some (.c (.bool true),H):=Z1V M v H
 exact this⟩
theorem J1i{j1 j2 j3 g:Nat}{of:Nat->Int}(h1:j1<b)(h2:j2<b)(h3:j3<b)(g1:H0.get j1=some (.cells 1 [.slice j3 0 n]))(g2:H0.get j2=some (.cells 1 [.int .i64 (g:Int)]))(g3:H0.get j3=some (.cells 1 (fc n of)))(hgn:g<n):PredC M b H0 (.func 101 [] [.ptr j1 0, .ptr j2 0]) n (fun v=>decide (of v=of g)):=by
 refine⟨_,rfl,fun H f v hv=> ?_⟩
 have e1:H.get j1=some (.cells 1 [.slice j3 0 n]):=by rw[f.old j1 h1];exact g1
 have e2:H.get j2=some (.cells 1 [.int .i64 (g:Int)]):=by rw[f.old j2 h2];exact g2
 have e3:H.get j3=some (.cells 1 (fc n of)):=by rw[f.old j3 h3];exact g3
 have:f101 M (v:Int) (.ptr j1 0) (.ptr j2 0) H=some (.c (.bool (decide (of v=of g))),H):=by
  rw[Q1H]
  simp only[asP_ptr,oS,q0f e1,q0f e2,q0f e3,List.getElem?_cons_zero,asI_int,q0i hv,q0i hgn,k0E hv,k0E hgn]
 exact this
theorem J1j{je pe j1 j2 b':Nat}{E:List Bool}{may:C}{mayP:Nat->Bool}{H':Heap}(hE:E.length=n)(hb:BM H0 je pe E)(h0:je<b)(h1:j1<b)(h2:j2<b)(g1:H0.get j1=some (.cells 1 [.slice je pe n]))(g2:H0.get j2=some (.cells 1 [may]))(hm:PredC M b' H' may n mayP)(f':FrB b' H' H0)(hbb:b'<=b):PredC M b H0 (.func 100 [] [.ptr j1 0, .ptr j2 0]) n (fun v=>E.getD v false&&mayP v):=by
 refine⟨_,rfl,fun H f v hv=> ?_⟩
 have e1:H.get j1=some (.cells 1 [.slice je pe n]):=by rw[f.old j1 h1];exact g1
 have e2:H.get j2=some (.cells 1 [may]):=by rw[f.old j2 h2];exact g2
 have hvl:v<E.length:=by omega
 have e3:=(hb.keep (f.old je h0)).ld (q0a hvl)
 have e4:E.getD v false=E[v]:=by rw[lG,q0a hvl];rfl
 obtain⟨q,q1,q2⟩:=hm
 have q3:=q2 H ⟨nT hbb f.next,fun i hi=>by rw[f.old i (by omega),f'.old i hi]⟩ v hv
 have:f100 M (v:Int) (.ptr j1 0) (.ptr j2 0) H=some (.c (.bool (E.getD v false&&mayP v)),H):=by
  rw[Q1G,e4]
  simp only[asP_ptr,oS,q0f e1,q0f e2,List.getElem?_cons_zero,Q0h hv,e3,asB_bool]
  cases E[v]with
  |false=>simp
  |true=>simp only[iT,q1,q3,oS,asC_c,asB_bool,Bool.true_and]
 exact this
end
theorem Q1l{n:Nat}{rows:List (Bool×List Int)}(hT:Table n rows){u v:Nat}(h:Rch (nxL rows) u v):u<n->v<n:=by
 induction h with
 |refl=>exact id
 |step h1 _ ih=>exact fun _=>ih (Q0C hT _ _ h1)
theorem Q0r{l:List Nat}(h:l≠[]): ∃l0 x,l=l0++[x]/\l.getLast?=some x:=by
 rcases List.eq_nil_or_concat l with e |⟨l0,x,e⟩
 ·exact absurd e h
 ·rw[List.concat_eq_append]at e
  exact⟨l0,x,e,by rw[e];simp⟩
section
variable{lim:Nat}{M:YM}(hM:CallsY lim M.ext){Hb:Heap}{F:Nat->Prop}{n ja jo jp b' gN:Nat}{g sets path:C}{bb b3:Bool}{rows:List (Bool×List Int)}{ls:List (List Bool)}{from' pre:List Nat}{mayP Q0:Nat->Bool}{of:Nat->Int}
variable(hl:lim<=Hb.next)(hF: ∀i,F i->i<Hb.next)(hg:UC Hb F (uLs bb rows) [g])(hT:Table n rows)(hn:n<=100000)
variable(g1:Hb.get ja=some (.cells 1 [.slice jo 0 n]))(g2:Hb.get jp=some (.cells 1 [.int .i64 (gN:Int)]))(g3:Hb.get jo=some (.cells 1 (fc n of)))(hj:ja<Hb.next/\jp<Hb.next/\jo<Hb.next)
variable(hsame: ∀x y,x<n->y<n->(of x=of y↔Both (nxL rows) x y))(hgn:gN<n)(hinn: ∃a b,b∈nxL rows a/\Both (nxL rows) gN a/\Both (nxL rows) gN b)
include hM hl hF hg hT hn g1 g2 g3 hj hsame hgn hinn
theorem z1n{k:Nat}{H:Heap}{c ak:C}{lp:List Nat}{Q:Nat->Bool}(f:FrB Hb.next Hb H)(ho:OInts H Hb.next c (natI lp))(hL:LpI (nxL rows) gN n (fun v=>decide (of v=of gN)) ls k lp)(hk:k<=8)(hQ:PredC (MH lim) H.next H ak n Q)(ht: ∃t,Both (nxL rows) gN t/\Q t=true):
  ∃x r c9 H5 c12,lp.getLast?=some x/\Heap.sub lim H 1 c ((lp.length:Int) - 1) none=some c9/\f99 (MH lim) g c9 1 (.func 101 [] [.ptr ja 0, .ptr jp 0]) ak H=some (.tuple [.c c12, .c (.bool true)],H5)/\Grow H H5/\OInts H5 H.next c12 (natI (x::r))/\
   WayR (nxL rows) (fun v=>decide (of v=of gN)) Q (· ∈[x]) n 1 (x::r)/\r≠[]:=by
 obtain⟨lp0,x,e,hx⟩:=Q0r hL.ne
 have ho':=ho
 rw[e,z0H]at ho'
 obtain⟨c9,s1,s2⟩:=k0X lim ho'
 have hxm:x∈lp:=by rw[e];simp
 have hxn:=hL.lt x hxm
 have hin:PredC (MH lim) H.next H (.func 101 [] [.ptr ja 0, .ptr jp 0]) n (fun v=>decide (of v=of gN)):=(J1i hj.1 hj.2.1 hj.2.2 g1 g2 g3 hgn).later f f.next
 have el:((natI lp0).length:Int)=(lp.length:Int) - 1:=by rw[q0m,e];simp
 rw[el]at s1
 obtain⟨t,t1,t2⟩:=ht
 have hP: ∀y,Both (nxL rows) gN y->decide (of y=of gN)=true:=fun y hy=>by
  rw[dE]
  exact(hsame y gN (Q1l hT hy.1 hgn) hgn).2 hy.symm
 rcases j1f hM (H:=H) (m:=1) (from':=[x]) (nT hl f.next) (fun i hi=>nL (hF i hi) f.next) (j0F hg f hF) hT (by omega) hin hQ (nR 1) (RdI.of_ints s2.ints (w0z s2)) (by simp) (fun s hs=>by rw[show s=x by simpa using hs];exact hxn)with⟨H5,c12,l,a1,a2,a3,a4⟩ |⟨H5,a1,a2,a3⟩
 ·obtain⟨r,r1,r2,_⟩:=J0A a4
  subst r1
  exact⟨x,r,c9,H5,c12,hx,s1,a1,a2,a3,a4,r2⟩
 ·exact absurd a3 (K1v hP hinn (hL.both x hxm) t1 t2)
variable(hs:UC Hb F (.sl b3 (ls.map setU)) [sets])(hls: ∀l∈ls,l.length=n)(hm:ls.length<=8)(hmeet: ∀k,k<ls.length-> ∃t,Both (nxL rows) gN t/\inB (ls.getD k []) t)
variable(hpath:OInts Hb b' path (natI (pre++[gN])))(hpre:WayR (nxL rows) (fun _=>true) Q0 (· ∈from') n 0 (pre++[gN]))(hmay:mayP gN=true)
include hs hls hm hmeet hpath hpre hmay
theorem z1o: ∀(d k:Nat) (H:Heap) (lp:List Nat) (c:C),k+d=ls.length->FrB Hb.next Hb H->OInts H Hb.next c (natI lp)->LpI (nxL rows) gN n (fun v=>decide (of v=of gN)) ls k lp->
  ∃H' c1 c2 lp',f73_1 (MH lim) g c path (.ptr jp 0) (.func 101 [] [.ptr ja 0, .ptr jp 0]) sets (ls.length:Int) (k:Int) H=some (.tuple [.c c1, .c c2, .c (.bool true)],H')/\FrB Hb.next Hb H'/\OInts H' b' c1 (natI pre)/\OInts H' Hb.next c2 (natI lp')/\LassoR (nxL rows) n (· ∈from') mayP ls pre lp':=by
 have hP2: ∀y,y<n->decide (of y=of gN)=true->Both (nxL rows) gN y:=fun y hy h=>((hsame y gN hy hgn).1 (by simpa using h)).symm
 have hlb: ∀(k:Nat) (lp:List Nat),k<=8->LpI (nxL rows) gN n (fun v=>decide (of v=of gN)) ls k lp->lp.length<=1000000:=fun k lp hk h=>by
  have h1:=h.len
  have h2:=Nat.mul_le_mul_left n (nT (q1Z ls gN k) hk)
  omega
 intro d
 induction d with
 |zero=>
  intro k H lp c hk f ho hL
  have hkl:k=ls.length:=by omega
  subst hkl
  have hlen:C.len c=some lp.length:=by rw[ho.ints.len,q0m]
  have hlb':=hlb _ lp hm hL
  obtain⟨x,r0,c9,H5,c12,q1,q2,q3,q4,q5,q6,q7⟩:=z1n hM hl hF hg hT hn g1 g2 g3 hj hsame hgn hinn f ho hL hm ((J1h hj.2.1 g2).later f f.next) ⟨gN,Both.refl _ gN,by simp⟩
  obtain⟨r1,r2,r3,r4,w,r5,r6⟩:=J0A q6
  cases r2
  obtain⟨r,y,er,ey⟩:=Q0r r3
  have eyg:y=gN:=by
   rw[ey]at r5;cases r5;simpa using r6
  subst eyg
  subst er
  have hlen12:C.len c12=some (r.length+2):=by rw[q5.ints.len,q0m];simp
  have ho12:OInts H5 H.next c12 ([(x:Int)]++natI r++[(y:Int)]):=by
   have:=q5
   rw[show natI (x::(r++[y]))=[(x:Int)]++natI r++[(y:Int)] by simp[natI]]at this
   exact this
  obtain⟨c29,s1,s2⟩:=k0u lim ho12
  have e1:(([(x:Int)].length+(natI r).length:Nat):Int)=((r.length+2:Nat):Int) - 1:=by rw[q0m];simp;omega
  rw[e1]at s1
  have ho5:OInts H5 Hb.next c (natI lp):=q0P ho q4
  have hrl:r.length<=1000000:=by simp at r4;omega
  obtain⟨c32,H6,a1,a2,a3,a4⟩:=Z0s (lim:=lim) (r:=natI r) ho5 hl (by rw[q0m,q0m];omega)
  rw[q0m]at a1
  have f5:FrB Hb.next Hb H5:=f.fr q4
  have f6:FrB Hb.next Hb H6:=⟨nT f5.next a3,fun i hi=>by rw[a4 i hi];exact f5.old i hi⟩
  have hb':=hpath.1
  have hpath6:OInts H6 b' path (natI (pre++[y])):=⟨nT hb' f6.next,hpath.2.1,hpath.2.2.imp id fun⟨i,o,cs,p1,p2,p3,p4,p5⟩=>⟨i,o,cs,p1,p2,nL p3 f6.next,by rw[f6.old i p3];exact p4,p5⟩⟩
  have hlenp:C.len path=some (pre.length+1):=by rw[hpath.ints.len,q0m];simp
  obtain⟨c34,t1,t2⟩:=k0u lim (l1:=[]) (l2:=natI pre) (l3:=[(y:Int)]) (by rw[List.nil_append];rw[show natI pre++[(y:Int)]=natI (pre++[y]) by simp[natI]];exact hpath6)
  have hpl:=hpre.len
  simp only[List.length_append,List.length_cons,List.length_nil]at hpl
  have e2:((([]:List Int).length+(natI pre).length:Nat):Int)=((pre.length+1:Nat):Int) - 1:=by rw[q0m];simp
  rw[e2]at t1
  refine⟨H6,c34,c32,lp++r, ?_,f6,t2,by rw[z0H];exact a2,hL.close hP2 q1 q6 hmay hpre⟩
  have w1:IntKind.wrap .i64 ((lp.length:Int) - 1)=(lp.length:Int) - 1:=q0g (by omega) (by omega)
  have w2:IntKind.wrap .i64 (((r.length+2:Nat):Int) - 1)=((r.length+2:Nat):Int) - 1:=q0g (by omega) (by omega)
  have w3:IntKind.wrap .i64 (((pre.length+1:Nat):Int) - 1)=((pre.length+1:Nat):Int) - 1:=q0g (by omega) (by omega)
  have hlen29:C.len c29=some r.length:=by rw[s2.ints.len,q0m]
  have s1':Heap.sub lim H5 1 c12 1 (some (((r.length+2:Nat):Int) - 1))=some c29:=s1
  have t1':Heap.sub lim H6 1 path 0 (some (((pre.length+1:Nat):Int) - 1))=some c34:=t1
  rw[J0m]
  simp only[Int.lt_irrefl,dF,bF,iF,hlen,oS,w1,q2,q3,ext_tuple,List.getElem?_cons_zero,List.getElem?_cons_succ,asC_c,asB_bool,hlen12,w2,s1',w0W s2,hlen29,a1,hlenp,w3,t1']
 |succ d ih=>
  intro k H lp c hk f ho hL
  have hlt:k<ls.length:=by omega
  have hgk:ls[k]? =some ls[k]:=q0a hlt
  have hgd:ls.getD k []=ls[k]:=by rw[lG,hgk];rfl
  have hlen:C.len c=some lp.length:=by rw[ho.ints.len,q0m]
  have hlb':=hlb _ lp (by omega) hL
  obtain⟨i1,o1,c2,r1,r2,r3,r4⟩:=rdS (j0F hs f hF) hgk
  have eI:IntKind.wrap .i64 ((k:Int)+1)=((k+1:Nat):Int):=q0b (by omega)
  have st1:=q0s (lim:=(MH lim).lim) (x:=c2) (alloc_new H (.cells 1 [C.nilSlice])) (show lim<=H.next by have:=f.next;omega) (o:=0) (by simp)
  generalize hH4:(H.alloc (.cells 1 [C.nilSlice])).put H.next _=H4 at st1
  have k4:H4.get H.next=some (.cells 1 [c2]):=by rw[<-hH4,put_same];rfl
  have n4:H4.next=H.next+1:=by rw[<-hH4];rfl
  have g4:Grow H H4:=⟨by omega,fun i hi=>by rw[<-hH4,q0c (by omega),q0d hi]⟩
  have f4:=f.fr g4
  have ho4:OInts H4 Hb.next c (natI lp):=q0P ho g4
  have hF4: ∀i,F i->i<H4.next:=fun i hi=>by have:=hF i hi;have:=f4.next;omega
  have hll:ls[k].length=n:=hls _ (lM hlt)
  have r4':UC H4 F (setU ls[k]) [c2]:=r4.mono ⟨fun _ h=>h,fun i hi=>g4.keep i (by have:=hF i hi;have:=f.next;omega)⟩
  have q61:=J1e (M:=MH lim) (RdI.of_ints ho4.ints (w0z ho4)) hlb' hL.lt (J1f (M:=MH lim) (n:=n) hF4 hll r4' (by omega:H.next<H4.next) k4) ⟨nR _,fun _ _=>rfl⟩
  by_cases hany:lp.any (fun v=>ls[k].getD v false)=true
  ·obtain⟨H',z⟩:=ih (k+1) H4 lp c (by omega) f4 ho4 (hL.skip (by
    obtain⟨t,t1,t2⟩:=List.any_eq_true.1 hany
    exact⟨t,t1,by rw[hgd];exact inB_getD.1 t2⟩))
   refine⟨H', ?_⟩
   rw[J0m]
   simp only[show((k:Int)<(ls.length:Int)) by omega,dY,iT,r1,r3,oS,st1,q61,hany,asC_c,asB_bool,eI]
   exact z
  ·obtain⟨t,t1,t2⟩:=hmeet k hlt
   rw[hgd]at t2
   obtain⟨x,r,c9,H5,c12,q1,q2,q3,q4,q5,q6,q7⟩:=z1n hM hl hF hg hT hn g1 g2 g3 hj hsame hgn hinn f4 ho4 hL (by omega) (J1g (M:=MH lim) (n:=n) hF4 hll r4' (by omega:H.next<H4.next) k4) ⟨t,t1,inB_getD.2 t2⟩
   have hL':=hL.more hP2 (fun⟨t,t1,t2⟩=>hany (List.any_eq_true.2 ⟨t,t1,by rw[hgd]at t2;exact inB_getD.2 t2⟩)) q1 q6 (fun w hw=>by rw[hgd];exact inB_getD.1 hw)
   have hlb2:=hlb _ _ (by omega) hL'
   rw[List.length_append]at hlb2
   have ho12:OInts H5 H4.next c12 ([(x:Int)]++natI r):=q5
   obtain⟨c16,s1,s2⟩:=k0X lim ho12
   have s1':Heap.sub lim H5 1 c12 1 none=some c16:=s1
   have ho5:OInts H5 Hb.next c (natI lp):=q0P ho4 q4
   obtain⟨c19,H6,a1,a2,a3,a4⟩:=Z0s (lim:=lim) (r:=natI r) ho5 hl (by rw[q0m,q0m];omega)
   rw[q0m]at a1
   rw[<-z0H]at a2
   have f5:FrB Hb.next Hb H5:=f4.fr q4
   have f6:FrB Hb.next Hb H6:=⟨nT f5.next a3,fun i hi=>by rw[a4 i hi];exact f5.old i hi⟩
   obtain⟨H',z⟩:=ih (k+1) H6 (lp++r) c19 (by omega) f6 a2 hL'
   refine⟨H', ?_⟩
   have w1:IntKind.wrap .i64 ((lp.length:Int) - 1)=(lp.length:Int) - 1:=q0g (by omega) (by omega)
   have hlen16:C.len c16=some r.length:=by rw[s2.ints.len,q0m]
   rw[Bool.not_eq_true]at hany
   rw[J0m]
   simp only[show((k:Int)<(ls.length:Int)) by omega,dY,iT,r1,r3,oS,st1,q61,hany,asC_c,asB_bool,bF,iF,hlen,w1,q2,q3,ext_tuple,List.getElem?_cons_zero,List.getElem?_cons_succ,s1',w0W s2,hlen16,a1,eI]
   exact z
end
def NoLasso(nx:Nat->List Nat)(src:Nat->Prop)(may:Nat->Bool)(ls:List (List Bool)):Prop:=
 ∀s v,src s->Rch nx s v->GoodN nx ls.length (fun k=>inB (ls.getD k [])) v->may v=false
section
variable{lim:Nat}{M:YM}(hM:CallsY lim M.ext){H:Heap}{F:Nat->Prop}{n:Nat}{g sets first may:C}{bb b3:Bool}{rows:List (Bool×List Int)}{ls:List (List Bool)}{from':List Nat}{mayP:Nat->Bool}
variable(hl:lim<=H.next)(hF: ∀i,F i->i<H.next)(hg:UC H F (uLs bb rows) [g])(hT:Table n rows)(hn:n<=100000)(hs:UC H F (.sl b3 (ls.map setU)) [sets])(hls: ∀l∈ls,l.length=n)(hm:ls.length<=8)
variable(hv:RdI H.next H first (natI from'))(hfl:from'.length<=1000000)(hfn: ∀s∈from',s<n)(hmay:PredC (MH lim) H.next H may n mayP)
include hM hl hF hg hT hn hs hls hm hv hfl hfn hmay
theorem J1R:(∃H' c1 c2 pre lp,f73 (MH lim) g first sets may H=some (.tuple [.c c1, .c c2, .c (.bool true)],H')/\Grow H H'/\OInts H' H.next c1 (natI pre)/\OInts H' H.next c2 (natI lp)/\LassoR (nxL rows) n (· ∈from') mayP ls pre lp)\/
  (∃H',f73 (MH lim) g first sets may H=some (.tuple [.c .nilSlice, .c .nilSlice, .c (.bool false)],H')/\Grow H H'/\NoLasso (nxL rows) (· ∈from') mayP ls):=by
 obtain⟨σ,s1,s2⟩:=Y0a (M:=M) hT (by omega)
 have hsame: ∀x y,x<n->y<n->(σ.of x=σ.of y↔Both (nxL rows) x y):=by
  obtain⟨σ',h1,_,h3⟩:=X0j (Q0C hT) (nR n)
  rw[s1]at h1;cases h1
  exact h3
 obtain⟨E,e1,e2,e3⟩:=s2 bb true b3 ls hls (by omega)
 have g1:(H.alloc (.cells 1 [may])).get H.next=some (.cells 1 [may]):=alloc_new _ _
 have gr1:Grow H (H.alloc (.cells 1 [may])):= .alloc H _
 generalize hH1:H.alloc (.cells 1 [may])=H1 at g1 gr1
 have n1:H1.next=H.next+1:=by rw[<-hH1];rfl
 have u1:UC H1 F (uLs bb rows) [g]:=hg.mono ⟨fun _ h=>h,fun i hi=>gr1.keep i (hF i hi)⟩
 obtain⟨jo,H2,q1,q2,q3,q4,q5⟩:=K1t hM u1 (by omega) (fun i hi=>by have:=hF i hi;omega) hT (by omega) s1
 have n2:=q2.next
 have st5:=q0s (lim:=(MH lim).lim) (x:= .slice jo 0 n) (alloc_new H2 (.cells 1 [C.nilSlice])) (show lim<=H2.next by omega) (o:=0) (by simp)
 generalize hH5:(H2.alloc (.cells 1 [C.nilSlice])).put H2.next _=H5 at st5
 have k5:H5.get H2.next=some (.cells 1 [.slice jo 0 n]):=by rw[<-hH5,put_same];rfl
 have n5:H5.next=H2.next+1:=by rw[<-hH5];rfl
 have g5:Grow H2 H5:=⟨by omega,fun i hi=>by rw[<-hH5,q0c (by omega),q0d hi]⟩
 have l5:Heap.ld H5 H2.next 0=some (.slice jo 0 n):=by rw[q0f k5];rfl
 have gr5:Grow H H5:=gr1.trans (q2.trans g5)
 let F5:Nat->Prop:=fun i=>F i\/i=jo
 have hF5: ∀i,F5 i->i<H5.next:=fun i hi=>hi.elim (fun h=>by have:=hF i h;omega) fun h=>by omega
 have m5:FLe H F H5 F5:=⟨fun i h=> .inl h,fun i hi=>gr5.keep i (hF i hi)⟩
 have uo:UC H5 F5 (uIs true (numsL n σ.of)) [.slice jo 0 n]:=Q1v (.inr rfl) (by rw[g5.keep jo (by omega)];exact q5)
 obtain⟨je,pe,H7,F7,r1,r2,r3,r4,r5,r6⟩:=Q1D hM (f:=92) rfl (us:=[uLs bb rows,uIs true (numsL n σ.of), .sl b3 (ls.map setU)]) (vs:=[.c g, .c (.slice jo 0 n), .c sets]) e1 (by omega) hF5 ⟨_,_,rfl,⟨rfl,hg.mono m5⟩,_,_,rfl,⟨rfl,uo⟩,_,_,rfl,⟨rfl,hs.mono m5⟩,rfl⟩
 rw[e2]at r1
 have q92:f92 (MH lim) g (.slice jo 0 n) sets H5=some (.c (.slice je pe n),H7):=r1
 have n7:=r2.next
 have g7:Grow H5 H7:=j0R r2
 have st10:=q0s (lim:=(MH lim).lim) (x:= .slice je pe n) (alloc_new H7 (.cells 1 [C.nilSlice])) (show lim<=H7.next by omega) (o:=0) (by simp)
 generalize hH10:(H7.alloc (.cells 1 [C.nilSlice])).put H7.next _=H10 at st10
 have k10:H10.get H7.next=some (.cells 1 [.slice je pe n]):=by rw[<-hH10,put_same];rfl
 have n10:H10.next=H7.next+1:=by rw[<-hH10];rfl
 have g10:Grow H7 H10:=⟨by omega,fun i hi=>by rw[<-hH10,q0c (by omega),q0d hi]⟩
 have gr10:Grow H H10:=gr5.trans (g7.trans g10)
 have f10:FrB H.next H H10:=⟨gr10.next,gr10.keep⟩
 have k1:H10.get H.next=some (.cells 1 [may]):=by rw[(q2.trans (g5.trans (g7.trans g10))).keep H.next (by omega)];exact g1
 have p100:=J1j (M:=MH lim) (b:=H10.next) e2 (r6.keep (g10.keep je r4)) (by omega) (by omega:H7.next<H10.next) (by omega:H.next<H10.next) k10 k1 hmay f10 gr10.next
 have u10:UC H10 F (uLs bb rows) [g]:=j0F hg f10 hF
 rcases j1f hM (H:=H10) (m:=0) (from':=from') (by omega) (fun i hi=>by have:=hF i hi;omega) u10 hT (by omega) K1k p100 (Nat.zero_le 1) (hv.later f10 gr10.next) hfl hfn with⟨H11,c13,l,a1,a2,a3,a4⟩ |⟨H11,a1,a2,a3⟩
 ·have a1':f99 (MH lim) g first 0 (.func 98 [] []) (.func 100 [] [.ptr H7.next 0, .ptr H.next 0]) H10=some (.tuple [.c c13, .c (.bool true)],H11):=a1
  obtain⟨pre,gN,el,eg⟩:=Q0r (l:=l) (fun e=>by have:=a4.len;rw[e]at this;simp at this)
  have n11:=a2.next
  subst el
  have hgn:gN<n:=a4.lt gN (by simp)
  have hQ:(E.getD gN false&&mayP gN)=true:=by
   obtain⟨w,w1,w2⟩:=a4.last
   rw[eg]at w1;cases w1;exact w2
  rw[bA,inB_getD]at hQ
  obtain⟨hE,hmy⟩:=hQ
  obtain⟨_,hinn,hmeet⟩:=(e3 gN).1 hE
  have hpl:=a4.len
  simp only[List.length_append,List.length_cons,List.length_nil]at hpl
  have hlen13:C.len c13=some (pre.length+1):=by rw[a3.ints.len,q0m];simp
  obtain⟨q18,r18,l18⟩:=a3.ints.read (j:=pre.length) (v:=(gN:Int)) (z0G (by simp))
  have w18:IntKind.wrap .i64 (((pre.length+1:Nat):Int) - 1)=(pre.length:Int):=by rw[q0g (by omega) (by omega)];omega
  have st22:=q0s (lim:=(MH lim).lim) (x:= .int .i64 (gN:Int)) (alloc_new H11 (.cells 1 [C.int .i64 0])) (show lim<=H11.next by omega) (o:=0) (by simp)
  generalize hH22:(H11.alloc (.cells 1 [C.int .i64 0])).put H11.next _=H22 at st22
  have k22:H22.get H11.next=some (.cells 1 [.int .i64 (gN:Int)]):=by rw[<-hH22,put_same];rfl
  have n22:H22.next=H11.next+1:=by rw[<-hH22];rfl
  have g22:Grow H11 H22:=⟨by omega,fun i hi=>by rw[<-hH22,q0c (by omega),q0d hi]⟩
  have l22:Heap.ld H22 H11.next 0=some (.int .i64 (gN:Int)):=by rw[q0f k22];rfl
  have gr22:Grow H H22:=gr10.trans (a2.trans g22)
  have f22:FrB H.next H H22:=⟨gr22.next,gr22.keep⟩
  have ka:H22.get H2.next=some (.cells 1 [.slice jo 0 n]):=by rw[(g7.trans (g10.trans (a2.trans g22))).keep _ (by omega)];exact k5
  have ko:H22.get jo=some (.cells 1 (fc n σ.of)):=by rw[(g5.trans (g7.trans (g10.trans (a2.trans g22)))).keep _ (by omega)];exact q5
  have olp:OInts (H22.alloc (.cells 1 [.int .i64 (gN:Int)])) H22.next (.slice H22.next 0 1) (natI [gN]):=OInts.lit H22 (nR _) [(gN:Int)] rfl rfl
  obtain⟨H',c1,c2,lp',z1,z2,z3,z4,z5⟩:=z1o hM (Hb:=H22) (F:=F) (by omega) (fun i hi=>by have:=hF i hi;have:=gr22.next;omega) (j0F hg f22 hF) hT hn ka k22 ko ⟨by omega,by omega,by omega⟩ hsame hgn hinn (j0F hs f22 hF) hls hm hmeet (q0P a3 g22) a4 hmy ls.length 0 _ [gN] _ (by omega) ⟨by simp,fun i hi=>q0d hi⟩ olp (LpI.start hgn)
  have hks:=lenS (j0F hs f22 hF)
  refine .inl ⟨H',c1,c2,pre,lp', ?_,gr22.trans ⟨z2.next,z2.old⟩,Own.low z3 (by omega),Own.low z4 (by omega),z5⟩
  rw[w1N]
  simp only[hH1,q1,oS,asC_c,st5,l5,q92,st10,a1',ext_tuple,List.getElem?_cons_zero,List.getElem?_cons_succ,asB_bool,Bool.not_true,bF,iF,hlen13,w18,r18,l18,asI_int,st22,l22,hks]
  exact z1
 ·have a1':f99 (MH lim) g first 0 (.func 98 [] []) (.func 100 [] [.ptr H7.next 0, .ptr H.next 0]) H10=some (.tuple [.c .nilSlice, .c (.bool false)],H11):=a1
  refine .inr ⟨H11, ?_,gr10.trans a2,fun s v hs' hv' hgd=>j1b a3 hs' hv' (inB_getD.2 ((e3 v).2 ⟨Q1l hT hv' (hfn s hs'),hgd⟩))⟩
  rw[w1N]
  simp only[hH1,q1,oS,asC_c,st5,l5,q92,st10,a1',ext_tuple,List.getElem?_cons_zero,List.getElem?_cons_succ,asB_bool,Bool.not_false,iT]
end
def stL(pre lp:List Nat)(p:Nat):Nat:=(pre++lp).getD p 0
theorem w0m{pre lp:List Nat}{p:Nat}(h:p<pre.length+lp.length):(pre++lp)[p]? =some (stL pre lp p):=by
 have:p<(pre++lp).length:=by rw[List.length_append];exact h
 unfold stL
 rw[lG,q0a this];rfl
def rhoL(pre lp:List Nat)(w0:List Int)(i:Nat):Nat:=stL pre lp (posN w0 (pre.length+lp.length) i)
section
variable{pre lp:List Nat}{w0 w1:List Int}(h0:w0.length=pre.length)(h1:w1.length=lp.length)(hp:0<lp.length)
include h0 h1 hp
theorem w1X(i:Nat):posN w0 (pre.length+lp.length) i<pre.length+lp.length:=(k0V (w0:=w0) (w1:=w1) (by omega) (by omega) i).1
theorem Z0w{t:Nat}(ht:t∈lp)(N:Nat): ∃i,N<=i/\rhoL pre lp w0 i=t:=by
 obtain⟨j,hj⟩:=List.mem_iff_getElem?.1 ht
 have hjl:=(gE.1 hj).1
 have hNl:N<=N*lp.length:=Nat.le_mul_of_pos_right N hp
 have hi:=k0V (w0:=w0) (w1:=w1) (n:=pre.length+lp.length) (by omega) (by omega) (pre.length+j+N*lp.length)
 rw[if_neg (by omega),h0,h1,show pre.length+j+N*lp.length - pre.length=j+N*lp.length by omega,Nat.add_mul_mod_self_right,Nat.mod_eq_of_lt hjl]at hi
 refine⟨pre.length+j+N*lp.length,by omega, ?_⟩
 unfold rhoL
 have e:posN w0 (pre.length+lp.length) (pre.length+j+N*lp.length)=pre.length+j:=by omega
 rw[e]
 unfold stL
 rw[lG,List.getElem?_append_right (by omega),show pre.length+j - pre.length=j by omega,hj]
 rfl
end
structure LetR (es:List E4) (pre lp:List Nat) (w0 w1:List Int):Prop where
 l0:w0.length=pre.length
 l1:w1.length=lp.length
 nn: ∀i,0<=letr w0 w1 i
 ed: ∀p,p<pre.length+lp.length-> ∃e∈es,e.f=((stL pre lp p:Nat):Int)/\e.t=((stL pre lp (toP w0 (pre.length+lp.length) p):Nat):Int)/\rdI e (letr w0 w1 p)=true
theorem k1K{l:List Int}{es:List E4}{xs:List (Bool×List Int)}{pre lp:List Nat}{w0 w1:List Int}(hp:0<lp.length)(hW:LetR es pre lp w0 w1)(hs:((stL pre lp 0:Nat):Int)∈l)(hm: ∀k,k<xs.length-> ∃t∈lp,((t:Nat):Int)∈(xs.getD k (false,[])).2):Acc (auL l es xs) (wrd w0 w1):=by
 have hn:pre.length+lp.length=w0.length+w1.length:=by rw[hW.l0,hW.l1]
 refine⟨rhoL pre lp w0, ?_,fun i=> ?_,fun k hk N=> ?_⟩
 ·exact hs
 ·obtain⟨e,e1,e2,e3,e4⟩:=hW.ed _ (w1X hW.l0 hW.l1 hp i)
  refine⟨e,e1,e2,e3, ?_⟩
  have hw:((wrd w0 w1 i:Nat):Int)=letr w0 w1 i:=by have:=hW.nn i;unfold wrd;omega
  rw[hw]
  rw[J0t hn (by rw[hW.l1];exact hp)]at e4
  exact e4
 ·obtain⟨t,t1,t2⟩:=hm k hk
  obtain⟨i,i1,i2⟩:=Z0w hW.l0 hW.l1 hp t1 N
  refine⟨i,i1, ?_⟩
  show((rhoL pre lp w0 i:Nat):Int)∈_
  rw[i2];exact t2
section
variable{nx:Nat->List Nat}{n:Nat}{src:Nat->Prop}{may:Nat->Bool}{ls:List (List Bool)}{pre lp:List Nat}
theorem LassoR.pos(h:LassoR nx n src may ls pre lp):0<lp.length:=by
 obtain⟨g,h1,_⟩:=h.lead
 cases lp with
 |nil=>cases h1
 |cons _ _=>simp
theorem LassoR.start(h:LassoR nx n src may ls pre lp):src (stL pre lp 0):=by
 obtain⟨s,h1,h2⟩:=h.first
 have:=h.pos
 have e:=w0m (pre:=pre) (lp:=lp) (p:=0) (by omega)
 rw[<-List.head?_eq_getElem?,h1]at e
 have e2:=Option.some.inj e
 rw[<-e2];exact h2
theorem LassoR.step(h:LassoR nx n src may ls pre lp){w0:List Int}(h0:w0.length=pre.length){p:Nat}(hp:p<pre.length+lp.length):stL pre lp (toP w0 (pre.length+lp.length) p)∈nx (stL pre lp p):=by
 obtain⟨g,h1,_,h2,_⟩:=h.lead
 have hpos:=h.pos
 have a1:(pre++lp++[g])[p]? =some (stL pre lp p):=by rw[List.getElem?_append_left (by rw[List.length_append];exact hp)];exact w0m hp
 refine(h2.at (i:=p) a1 ?_).1
 unfold toP
 by_cases e:p+1=pre.length+lp.length
 ·rw[if_pos e,h0]
  rw[List.getElem?_append_right (by rw[List.length_append];omega)]
  have e3:=w0m (pre:=pre) (lp:=lp) (p:=pre.length) (by omega)
  rw[List.getElem?_append_right (nR _),Nat.sub_self,<-List.head?_eq_getElem?,h1]at e3
  rw[List.length_append,show p+1 - (pre.length+lp.length)=0 by omega]
  exact e3
 ·rw[if_neg e,List.getElem?_append_left (by rw[List.length_append];omega)]
  exact w0m (by omega)
theorem LassoR.stlt(h:LassoR nx n src may ls pre lp){p:Nat}(hp:p<pre.length+lp.length):stL pre lp p<n:=h.lt _ (List.mem_of_getElem? (w0m hp))
end
theorem k1L{e:E4}(h1:btw e.n 0 4095=true):rdI e e.n=cr e:=by
 simp only[btw,dE]at h1
 obtain⟨n,hn⟩:=iZ h1.1
 have:bitI .and .i64 e.n e.n=e.n:=by rw[hn,J0u (by omega) (by omega),Nat.and_self]
 unfold rdI cr
 rw[this];simp
section
variable{a:Nat}{l:List Int}{es:List E4}{xs:List (Bool×List Int)}(hT:Table a (rowsU a es))(ok:es.all (eOK (a:Int))=true)
include hT
theorem q1V{u v:Nat}:v∈nxL (rowsU a es) u↔u<a/\ ∃e∈es,cr e=true/\e.f=(u:Int)/\e.t=(v:Int):=by
 rw[q0X hT]
 unfold rowsU
 rw[w1S]
 refine and_congr Iff.rfl ?_
 unfold psU
 rw[List.mem_map]
 constructor
 ·rintro⟨e,h1,h2⟩
  obtain⟨h3,h4⟩:=List.mem_filter.1 h1
  simp only[Prod.mk.injEq]at h2
  exact⟨e,h3,h4,h2.2,h2.1⟩
 ·rintro⟨e,h1,h2,h3,h4⟩
  exact⟨e,List.mem_filter.2 ⟨h1,h2⟩,by rw[h3,h4]⟩
omit hT in
theorem q1W{k t:Nat}(hk:k<xs.length):inB ((setsU a xs).getD k []) t↔t<a/\(t:Int)∈(xs.getD k (false,[])).2:=by
 unfold setsU
 rw[lG,List.getElem?_map,lG,q0a hk]
 exact J0z
theorem J1r{from':List Nat}(hfr: ∀s:Nat,(s:Int)∈l->s∈from'){may:Nat->Bool}(hmay: ∀v,(xs.length=0\/inB ((setsU a xs).getD 0 []) v)->may v=true)(h:NoLasso (nxL (rowsU a es)) (· ∈from') may (setsU a xs)): ∀v,¬inB (usefulL a l es xs) v:=by
 intro v hv
 obtain⟨_,h1,s,h2,h3⟩:=inB_useful.1 hv
 obtain⟨u,u1,u2⟩:=(z1O hT).1 h1
 have hl:(setsU a xs).length=xs.length:=by simp[setsU]
 have u2':GoodN (nxL (rowsU a es)) (setsU a xs).length (fun k=>inB ((setsU a xs).getD k [])) u:=by rw[hl];exact u2
 by_cases hx:xs.length=0
 ·have e:=h s u (hfr s h2) (h3.trans u1) u2'
  rw[hmay u (.inl hx)]at e;cases e
 ·obtain⟨⟨b,c,g1,g2,g3⟩,g4⟩:=u2'
  obtain⟨t,t1,t2⟩:=g4 0 (by omega)
  have e:=h s t (hfr s h2) (h3.trans (u1.trans t1.1)) ⟨⟨b,c,g1,t1.symm.trans g2,t1.symm.trans g3⟩,fun k hk=>by
   obtain⟨z,z1,z2⟩:=g4 k hk
   exact⟨z,t1.symm.trans z1,z2⟩⟩
  rw[hmay t (.inr t2)]at e;cases e
theorem q1X{from':List Nat}(hfr: ∀s:Nat,s∈from'->(s:Int)∈l){may:Nat->Bool}{pre lp:List Nat}(h:LassoR (nxL (rowsU a es)) a (· ∈from') may (setsU a xs) pre lp): ∃v,inB (usefulL a l es xs) v:=by
 have hp:=h.pos
 have h0:(List.replicate pre.length (0:Int)).length=pre.length:=by simp
 have h1:(List.replicate lp.length (0:Int)).length=lp.length:=by simp
 have hl:(setsU a xs).length=xs.length:=by simp[setsU]
 refine⟨stL pre lp 0,inB_useful.2 ⟨h.stlt (by omega),⟨rhoL pre lp (List.replicate pre.length 0),rfl,fun i=> ?_,fun k hk N=> ?_⟩,_,hfr _ h.start, .refl _⟩⟩
 ·exact(q0X hT).1 (h.step h0 (w1X h0 h1 hp i))
 ·obtain⟨t,t1,t2⟩:=h.meets k (by rw[hl];exact hk)
  obtain⟨i,i1,i2⟩:=Z0w h0 h1 hp t1 N
  exact⟨i,i1,by rw[i2];exact t2⟩
end
def vE(e:E4):V:= .agg [.int .i64 e.f, .int .i64 e.t, .int .i64 e.n, .int .i64 e.v]
def PredE(M:Mach)(b:Nat)(H0:Heap)(c:C)(es:List E4)(P:E4->Bool):Prop:=
 ∃q:FuncId×List C×List C,C.asF c=some q/\ ∀H,FrB b H0 H-> ∀e∈es,∃H',mcall M q.1 (q.2.1.map .c++[vE e]++q.2.2.map .c) H=some (.c (.bool (P e)),H')/\Grow H H'
section
variable{M:Mach}{b:Nat}{H0:Heap}{F:Nat->Prop}{s f:C}{b2:Bool}{es:List E4}{P:E4->Bool}
theorem q1Q(hF: ∀i,F i->i<b)(hu:UC H0 F (uEs b2 es) [s])(he:es.length<=1000000)(hf:PredE M b H0 f es P): ∀(d i:Nat) (H:Heap),i+d=es.length->FrB b H0 H->(∃e∈es.drop i,P e=true)->
  ∃(k:Nat) (e:E4) (H':Heap),f75_1 M s f (es.length:Int) (i:Int) H=some (.c (.int .i64 (k:Int)),H')/\Grow H H'/\es[k]? =some e/\P e=true:=by
 obtain⟨q,h1,h2⟩:=hf
 intro d
 induction d with
 |zero=>
  intro i H hi fH ⟨e,he',_⟩
  rw[dL (by omega)]at he';cases he'
 |succ d ih=>
  intro i H hi fH hex
  have hlt:i<es.length:=by omega
  have hg:es[i]? =some es[i]:=q0a hlt
  obtain⟨i1,o1,g1,g2,g3,g4,g5,g6⟩:=rdE (j0F hu fH hF) hg
  obtain⟨H1,c1,c2⟩:=h2 H fH _ (lM hlt)
  unfold vE at c1
  cases hP:P es[i]with
  |true=>
   refine⟨i,es[i],H1, ?_,c2,hg,hP⟩
   rw[W0O]
   simp only[show((i:Int)<(es.length:Int)) by omega,dY,iT,g1,g3,g4,g5,g6,oS,asI_int,h1,c1,asC_c,asB_bool,hP]
  |false=>
   obtain⟨k,e,H',k1,k2,k3⟩:=ih (i+1) H1 (by omega) (fH.fr c2) (by
    obtain⟨e,e1,e2⟩:=hex
    rw[List.drop_eq_getElem_cons hlt]at e1
    rcases mC.1 e1 with g |g
    ·rw[g,hP]at e2;cases e2
    ·exact⟨e,g,e2⟩)
   refine⟨k,e,H', ?_,c2.trans k2,k3⟩
   rw[W0O]
   simp only[show((i:Int)<(es.length:Int)) by omega,dY,iT,g1,g3,g4,g5,g6,oS,asI_int,h1,c1,asC_c,asB_bool,hP,bF,iF,q0b (show i<=1000000000 by omega),k1]
theorem W1n{H:Heap}(hu:UC H F (uEs b2 es) [s]):C.len s=some es.length:=by have:=UC.lenC hu;simpa using this
theorem J1n(hF: ∀i,F i->i<b)(hu:UC H0 F (uEs b2 es) [s])(he:es.length<=1000000)(hf:PredE M b H0 f es P){H:Heap}(fH:FrB b H0 H)(hex: ∃e∈es,P e=true):
  ∃(k:Nat) (e:E4) (H':Heap),f75 M s f H=some (.c (.int .i64 (k:Int)),H')/\Grow H H'/\es[k]? =some e/\P e=true:=by
 obtain⟨k,e,H',k1,k2⟩:=q1Q hF hu he hf es.length 0 H (by omega) fH (by rw[List.drop_zero];exact hex)
 refine⟨k,e,H', ?_,k2⟩
 rw[Z1R]
 simp only[W1n hu,oS]
 exact k1
end
section
variable{lim:Nat}{M:YM}(hM:CallsY lim M.ext)
include hM
theorem K1o{b:Nat}{H0:Heap}{es:List E4}{j1 j2:Nat}{s t:Int}(hl:lim<=b)(h1:j1<b)(h2:j2<b)(g1:H0.get j1=some (.cells 1 [.int .i64 s]))(g2:H0.get j2=some (.cells 1 [.int .i64 t])):
  PredE (MH lim) b H0 (.func 76 [] [.ptr j1 0, .ptr j2 0]) es (fun e=>decide (e.f=s)&&decide (e.t=t)&&cr e):=by
 refine⟨_,rfl,fun H f e _=> ?_⟩
 have e1:H.get j1=some (.cells 1 [.int .i64 s]):=by rw[f.old j1 h1];exact g1
 have e2:H.get j2=some (.cells 1 [.int .i64 t]):=by rw[f.old j2 h2];exact g2
 obtain⟨v2,H2,F2,m1,m2,m3⟩:=z0g hM (f:=69) (H:=H) (F:=fun _=>False) (us:=[uE e]) (vs:=[.agg [.int .i64 e.f, .int .i64 e.t, .int .i64 e.n, .int .i64 e.v]]) (w1Y (M:=M) e) rfl (nT hl f.next) (fun _ h=>h.elim) ⟨_,[],rfl,J0x _,rfl⟩
 have:=m3.bool
 subst this
 have q2:f69 (MH lim) e.f e.t e.n e.v H=some (.c (.bool (cr e)),H2):=m1
 have key: ∃H',f76 (MH lim) e.f e.t e.n e.v (.ptr j1 0) (.ptr j2 0) H=some (.c (.bool (decide (e.f=s)&&decide (e.t=t)&&cr e)),H')/\Grow H H':=by
  by_cases a1:e.f=s
  ·by_cases a2:e.t=t
   ·refine⟨H2, ?_,j0R m2⟩
    rw[q1l]
    simp only[asP_ptr,oS,q0f e1,q0f e2,List.getElem?_cons_zero,asI_int,a1,a2,dY,iT,Bool.true_and]
    rw[a1,a2]at q2
    simp only[q2,oS,asC_c,asB_bool]
   ·refine⟨H, ?_, .refl H⟩
    rw[q1l]
    simp only[asP_ptr,oS,q0f e1,q0f e2,List.getElem?_cons_zero,asI_int,a1,a2,dY,dF,iT,Bool.true_and,bF,iF,Bool.false_and]
  ·refine⟨H, ?_, .refl H⟩
   rw[q1l]
   simp only[asP_ptr,oS,q0f e1,q0f e2,List.getElem?_cons_zero,asI_int,a1,dF,bF,iF,Bool.false_and]
 exact key
def LetsI(es:List E4)(pre lp:List Nat)(w:List Int):Prop:=
 ∀j x,w[j]? =some x-> ∃e∈es,e.f=((stL pre lp j:Nat):Int)/\e.t=((stL pre lp (if j+1=pre.length+lp.length then pre.length else j+1):Nat):Int)/\cr e=true/\x=e.n
section
variable{Hs:Heap}{F:Nat->Prop}{b2:Bool}{es:List E4}{pre lp:List Nat}{a_0:Int}{a_1 a_3 x0 x1 c2 vp vl cs:C}
variable(hl:lim<=Hs.next)(hF: ∀i,F i->i<Hs.next)(hu:UC Hs F (uEs b2 es) [c2])(he:es.length<=1000000)(hcs:RdI Hs.next Hs cs (natI (pre++lp)))(hvl:RdI Hs.next Hs vl (natI lp))(hn:pre.length+lp.length<=1000000)(hp:0<lp.length)
variable(hst: ∀j,j<pre.length+lp.length-> ∃e∈es,e.f=((stL pre lp j:Nat):Int)/\e.t=((stL pre lp (if j+1=pre.length+lp.length then pre.length else j+1):Nat):Int)/\cr e=true)
include hl hF hu he hcs hvl hn hp hst
theorem Z0u{j1 j2 p:Nat}{H Hx:Heap}{c:C}{w:List Int}(hpn:p<pre.length+lp.length)(f:FrB Hs.next Hs Hx)(h1:j1<Hx.next)(h2:j2<Hx.next)(k1:Hx.get j1=some (.cells 1 [.int .i64 ((stL pre lp p:Nat):Int)]))(k2:Hx.get j2=some (.cells 1 [.int .i64 ((stL pre lp (if p+1=pre.length+lp.length then pre.length else p+1):Nat):Int)]))(ho:OInts Hx Hs.next c w)(hw:w.length=p)(hI:LetsI es pre lp w):
  ∃H' c' w',f37_2 (MH lim) a_0 a_1 c2 a_3 x0 x1 vp vl cs c (.ptr j1 0) (.ptr j2 0) cs ((pre.length+lp.length:Nat):Int) (p:Int) Hx=f37_1 (MH lim) a_0 a_1 c2 a_3 x0 x1 vp vl cs c' cs ((pre.length+lp.length:Nat):Int) ((p+1:Nat):Int) H'/\FrB Hs.next Hs H'/\OInts H' Hs.next c' w'/\w'.length=p+1/\LetsI es pre lp w':=by
 have hFx: ∀i,F i->i<Hx.next:=fun i hi=>nL (hF i hi) f.next
 obtain⟨e0,e1,e2,e3,e4⟩:=hst p hpn
 obtain⟨k,e,H1,z1,z2,z3,z4⟩:=J1n hFx (j0F hu f hF) he (K1o hM (es:=es) (nT hl f.next) h1 h2 k1 k2) ⟨nR _,fun _ _=>rfl⟩ ⟨e0,e1,by simp[e2,e3,e4]⟩
 have f1:=f.fr z2
 simp only[bA,dE]at z4
 obtain⟨i1,o1,g1,g2,g3,g4,g5,g6⟩:=rdE (j0F hu f1 hF) z3
 have g5':Heap.ld H1 i1 (o1+2)=some (.int .i64 e.n):=g5
 obtain⟨a1,c',H',a2,a3,a4,a5⟩:=(q0P ho z2).append1 (lim:=lim) hl e.n (by omega)
 have f2:FrB Hs.next Hs H':=⟨nT f1.next a4.next,fun i hi=>by
  rw[a4.keep i (by have:=f1.next;omega) fun o m ee=>by
   rcases ho.2.2 with⟨e',_⟩ |⟨i',o',cs',e',h2,_⟩
   ·rw[ee]at e';cases e'
   ·rw[ee]at e';cases e';omega]
  exact f1.old i hi⟩
 refine⟨H',c',w++[e.n], ?_,f2,a3,by simp[hw],fun j x hj=> ?_⟩
 ·rw[k1e]
  simp only[z1,oS,asC_c,asI_int,g1,g5',a1,a2,q0b (show p<=1000000000 by omega)]
 ·by_cases hjw:j<w.length
  ·rw[List.getElem?_append_left hjw]at hj
   exact hI j x hj
  ·have hjl:=(gE.1 hj).1
   simp only[List.length_append,List.length_cons,List.length_nil]at hjl
   have hjp:j=p:=by omega
   subst hjp
   rw[List.getElem?_append_right (by omega),show j - w.length=0 by omega]at hj
   exact⟨e,List.mem_of_getElem? z3,z4.1.1,z4.1.2,z4.2,by simpa using hj.symm⟩
theorem q1R: ∀(d p:Nat) (H:Heap) (c:C) (w:List Int),p+d=pre.length+lp.length->FrB Hs.next Hs H->OInts H Hs.next c w->w.length=p->LetsI es pre lp w->
  ∃H' c' w',f37_1 (MH lim) a_0 a_1 c2 a_3 x0 x1 vp vl cs c cs ((pre.length+lp.length:Nat):Int) (p:Int) H=f37_1 (MH lim) a_0 a_1 c2 a_3 x0 x1 vp vl cs c' cs ((pre.length+lp.length:Nat):Int) ((pre.length+lp.length:Nat):Int) H'/\FrB Hs.next Hs H'/\OInts H' Hs.next c' w'/\w'.length=pre.length+lp.length/\LetsI es pre lp w':=by
 intro d
 induction d with
 |zero=>
  intro p H c w hd f ho hw hI
  have:p=pre.length+lp.length:=by omega
  subst this
  exact⟨H,c,w,rfl,f,ho,hw,hI⟩
 |succ d ih=>
  intro p H c w hd f ho hw hI
  have hpn:p<pre.length+lp.length:=by omega
  obtain⟨⟨i1,o1⟩,r1,r2⟩:=hcs.2 H f p _ (z0G (w0m hpn))
  have st5:=q0s (lim:=(MH lim).lim) (x:= .int .i64 ((stL pre lp p:Nat):Int)) (alloc_new H (.cells 1 [C.int .i64 0])) (show lim<=H.next by have:=f.next;omega) (o:=0) (by simp)
  generalize hH5:(H.alloc (.cells 1 [C.int .i64 0])).put H.next _=H5 at st5
  have k5:H5.get H.next=some (.cells 1 [.int .i64 ((stL pre lp p:Nat):Int)]):=by rw[<-hH5,put_same];rfl
  have n5:H5.next=H.next+1:=by rw[<-hH5];rfl
  have g5:Grow H H5:=⟨by omega,fun i hi=>by rw[<-hH5,q0c (by omega),q0d hi]⟩
  have f5:=f.fr g5
  have hg0:lp[0]? =some (stL pre lp pre.length):=by
   have:=w0m (pre:=pre) (lp:=lp) (p:=pre.length) (by omega)
   rw[List.getElem?_append_right (nR _),Nat.sub_self]at this
   exact this
  obtain⟨⟨i2,o2⟩,r3,r4⟩:=hvl.2 H5 f5 0 _ (z0G hg0)
  have r3':C.elem 1 vl 0=some (i2,o2):=r3
  have st10:=q0s (lim:=(MH lim).lim) (x:= .int .i64 ((stL pre lp pre.length:Nat):Int)) (alloc_new H5 (.cells 1 [C.int .i64 0])) (show lim<=H5.next by have:=f5.next;omega) (o:=0) (by simp)
  generalize hH10:(H5.alloc (.cells 1 [C.int .i64 0])).put H5.next _=H10 at st10
  have k10:H10.get H5.next=some (.cells 1 [.int .i64 ((stL pre lp pre.length:Nat):Int)]):=by rw[<-hH10,put_same];rfl
  have n10:H10.next=H5.next+1:=by rw[<-hH10];rfl
  have g10:Grow H5 H10:=⟨by omega,fun i hi=>by rw[<-hH10,q0c (by omega),q0d hi]⟩
  have f10:=f5.fr g10
  have hlen:C.len cs=some (pre.length+lp.length):=by have:=hcs.1;rwa [q0m,List.length_append]at this
  have wl:IntKind.wrap .i64 (((pre.length+lp.length:Nat):Int) - 1)=((pre.length+lp.length:Nat):Int) - 1:=q0g (by omega) (by omega)
  have k5':H10.get H.next=some (.cells 1 [.int .i64 ((stL pre lp p:Nat):Int)]):=by rw[g10.keep _ (by omega)];exact k5
  have ho10:OInts H10 Hs.next c w:=q0P (q0P ho g5) g10
  by_cases hlast:p+1=pre.length+lp.length
  ·obtain⟨H1,c1,w1,q1,q2,q3,q4,q5⟩:=Z0u hM hl hF hu he hcs hvl hn hp hst (a_0:=a_0) (a_1:=a_1) (a_3:=a_3) (x0:=x0) (x1:=x1) (vp:=vp) (H:=H) (j1:=H.next) (j2:=H5.next) hpn f10 (by omega) (by omega) k5' (by rw[if_pos hlast];exact k10) ho10 hw hI
   obtain⟨H',c',w',z1,z2⟩:=ih (p+1) H1 c1 w1 (by omega) q2 q3 q4 q5
   refine⟨H',c',w', ?_,z2⟩
   rw[<-z1,<-q1,J0j]
   simp only[show((p:Int)<((pre.length+lp.length:Nat):Int)) by omega,dY,iT,r1,r2,oS,asI_int,st5,r3',r4,st10,hlen,wl,show¬((p:Int)<((pre.length+lp.length:Nat):Int) - 1) by omega,dF,bF,iF]
  ·obtain⟨⟨i3,o3⟩,r5,r6⟩:=hcs.2 H10 f10 (p+1) _ (z0G (w0m (by omega)))
   have st15:=q0s (lim:=(MH lim).lim) (x:= .int .i64 ((stL pre lp (p+1):Nat):Int)) k10 (show lim<=H5.next by have:=f5.next;omega) (o:=0) (by simp)
   generalize hH15:H10.put H5.next _=H15 at st15
   have k15:H15.get H5.next=some (.cells 1 [.int .i64 ((stL pre lp (p+1):Nat):Int)]):=by rw[<-hH15,put_same];rfl
   have kk: ∀i,i≠H5.next->H15.get i=H10.get i:=fun i hi=>by rw[<-hH15,q0c hi]
   have n15:H15.next=H10.next:=by rw[<-hH15];rfl
   have f15:FrB Hs.next Hs H15:=⟨by rw[n15];exact f10.next,fun i hi=>by rw[kk i (by have:=f5.next;omega)];exact f10.old i hi⟩
   have ho15:OInts H15 Hs.next c w:=by
    rw[<-hH15]
    refine q0Q ho10 fun j q m ee=> ?_
    have:=w0z ho j q m ee
    omega
   obtain⟨H1,c1,w1,q1,q2,q3,q4,q5⟩:=Z0u hM hl hF hu he hcs hvl hn hp hst (a_0:=a_0) (a_1:=a_1) (a_3:=a_3) (x0:=x0) (x1:=x1) (vp:=vp) (H:=H) (j1:=H.next) (j2:=H5.next) hpn f15 (by omega) (by omega) (by rw[kk _ (by omega)];exact k5') (by rw[if_neg hlast];exact k15) ho15 hw hI
   obtain⟨H',c',w',z1,z2⟩:=ih (p+1) H1 c1 w1 (by omega) q2 q3 q4 q5
   refine⟨H',c',w', ?_,z2⟩
   rw[<-z1,<-q1,J0j]
   simp only[show((p:Int)<((pre.length+lp.length:Nat):Int)) by omega,dY,iT,r1,r2,oS,asI_int,st5,r3',r4,st10,hlen,wl,show((p:Int)<((pre.length+lp.length:Nat):Int) - 1) by omega,q0b (show p<=1000000000 by omega),r5,r6,st15]
end
end
theorem w1g{M:YM}{a b:Nat}(ha:a<=1000000)(hb:b<=1000000)(h:a*b<=1000000):y110 M (a:Int) (b:Int)=some (.tup [.c (.int .u64 0), .c (.int .u64 ((a*b:Nat):Int))]):=by
 have s0:shI .shr .u64 0 32=0:=rfl
 have a0:bitI .and .u64 0 4294967295=0:=rfl
 have w0:IntKind.wrap .u64 0=0:=rfl
 have wn:IntKind.wrap .u64 ((a*b:Nat):Int)=((a*b:Nat):Int):=Q0K (by omega) (by omega)
 rw[q1d,q1e]
 simp only[k1P (show a<4294967296 by omega),J1s (show a<4294967296 by omega),k1P (show b<4294967296 by omega),J1s (show b<4294967296 by omega),Int.zero_mul,Int.mul_zero,w0,<-Int.natCast_mul,wn,k1P (show a*b<4294967296 by omega),Int.add_zero,Int.zero_add,s0,a0]
 rfl
def rep{α:Type}(k:Nat)(w:List α):List α:=(List.replicate k w).flatten
theorem j0B{α:Type}(k:Nat)(w:List α):(rep k w).length=w.length*k:=by
 induction k with
 |zero=>rfl
 |succ k ih=>simp only[rep,List.replicate_succ,List.flatten_cons,List.length_append]at ih⊢;rw[ih,Nat.mul_succ];omega
theorem K0z{α:Type}(q r:Nat)(w:List α):rep q w++rep r w=rep (q+r) w:=by
 unfold rep
 rw[<-List.flatten_append,List.replicate_append_replicate]
theorem j1D{α:Type}(w:List α):rep 1 w=w:=by simp[rep]
theorem w1h{α:Type}{q r:Nat}(w:List α)(h:r<=q):(rep q w).take (w.length*r)=rep r w:=by
 obtain⟨d,rfl⟩: ∃d,q=r+d:=⟨q - r,by omega⟩
 rw[<-K0z,List.take_append_of_le_length (by rw[j0B];exact nR _),List.take_of_length_le (by rw[j0B];exact nR _)]
theorem j1E{α:Type}(w:List α): ∀(k i:Nat),i<w.length*k->(rep k w)[i]? =w[i % w.length]?
 | 0,i,h=>absurd h (Nat.not_lt_zero _)
 |k+1,i,h=>by
  have e:rep (k+1) w=w++rep k w:=by rw[Nat.add_comm,<-K0z,j1D]
  rw[e]
  by_cases hi:i<w.length
  ·rw[List.getElem?_append_left hi,Nat.mod_eq_of_lt hi]
  ·rw[Nat.mul_succ]at h
   rw[List.getElem?_append_right (by omega),j1E w k (i - w.length) (by omega),<-Nat.mod_eq_sub_mod (by omega)]
theorem J1A{α β:Type}(g:α->β)(k:Nat)(w:List α):(rep k w).map g=rep k (w.map g):=by
 simp[rep,List.map_flatten]
theorem j1F{M:Mach}{i L k:Nat}{w:List C}(hi:M.lim<=i)(hw:w.length=L)(hL:1<=L)(hN:L*k<=1000000): ∀(F q:Nat) (cs:List C) (H:Heap),k<=q+F->1<=q->q<=k->H.get i=some (.cells 1 cs)->cs.length=L*k->cs.take (L*q)=rep q w->
  ∃H',f95_3 M (.slice i 0 (L*k)) ((L*q:Nat):Int) H=some (.c (.slice i 0 (L*k)),H')/\H'.next=H.next/\(∀j,j≠i->H'.get j=H.get j)/\H'.get i=some (.cells 1 (rep k w)):=by
 have fin: ∀(cs:List C) (H:Heap),H.get i=some (.cells 1 cs)->cs.length=L*k->cs.take (L*k)=rep k w-> ∃H',f95_3 M (.slice i 0 (L*k)) ((L*k:Nat):Int) H=some (.c (.slice i 0 (L*k)),H')/\H'.next=H.next/\(∀j,j≠i->H'.get j=H.get j)/\H'.get i=some (.cells 1 (rep k w)):=fun cs H hg hl ht=>by
  refine⟨H, ?_,rfl,fun _ _=>rfl, ?_⟩
  ·rw[z0D];simp
  ·rw[hg,<-ht,List.take_of_length_le (by omega)]
 intro F
 induction F with
 |zero=>
  intro q cs H hF h1 h2 hg hl ht
  obtain rfl:q=k:=by omega
  exact fin cs H hg hl ht
 |succ F ih=>
  intro q cs H hF h1 h2 hg hl ht
  by_cases hn:q=k
  ·subst hn;exact fin cs H hg hl ht
  ·obtain⟨n,en⟩: ∃n,n=L*q:=⟨_,rfl⟩
   obtain⟨N,eN⟩: ∃N,N=L*k:=⟨_,rfl⟩
   obtain⟨r,er⟩: ∃r,r=Nat.min q (k - q):=⟨_,rfl⟩
   have hr1:r<=q:=by rw[er];exact Nat.min_le_left _ _
   have hr2:r<=k - q:=by rw[er];exact Nat.min_le_right _ _
   have hr3:1<=r:=by rw[er];exact Nat.le_min.2 ⟨h1,by omega⟩
   obtain⟨m,em⟩: ∃m,m=L*r:=⟨_,rfl⟩
   have hqk:L*q+L<=L*k:=by
    have:=Nat.mul_le_mul_left L (show q+1<=k by omega)
    rw[Nat.mul_succ]at this;exact this
   have hlt:n<N:=by omega
   have hsub:N - n=L*(k - q):=by rw[eN,en,Nat.mul_sub]
   have hmm:Nat.min n (N - n)=m:=by
    rw[hsub,en,em,er]
    show min (L*q) (L*(k - q))=L*min q (k - q)
    rw[Nat.mul_min_mul_left]
   have hm1:m<=n:=by rw[<-hmm];exact Nat.min_le_left _ _
   have hm2:m<=N - n:=by rw[<-hmm];exact Nat.min_le_right _ _
   rw[<-en]at ht⊢
   rw[<-eN]at hl⊢
   have hrl:(rep q w).length=n:=by rw[j0B,hw,en]
   have hrm:(rep r w).length=m:=by rw[j0B,hw,em]
   have hbad:H.szBad i 1=false:=by simp[Heap.szBad,hg]
   have s1:Heap.sub M.lim H 1 (.slice i 0 N) (n:Int) none=some (.slice i n (N - n)):=by
    simp only[Heap.sub,hbad,bF,and_false,iF,Option.getD_none]
    rw[if_pos (by omega)]
    simp
   have s2:Heap.sub M.lim H 1 (.slice i 0 N) 0 (some (n:Int))=some (.slice i 0 n):=by
    simp only[Heap.sub,hbad,bF,and_false,iF,Option.getD_some]
    rw[if_pos (by omega)]
    simp
   have s3:Heap.cellsOf H 1 (.slice i 0 n)=some (rep q w):=by
    simp only[Heap.cellsOf,Heap.ldN,hg]
    rw[if_pos (by omega)]
    simp[ht]
   have htk:(rep q w).take (Nat.min n (N - n)*1)=rep r w:=by rw[Nat.mul_one,hmm,em,<-hw];exact w1h w hr1
   have s4:Heap.copy M.lim H 1 (.slice i n (N - n)) (rep q w) n=some (m,H.put i (.cells 1 (splice cs n (rep r w)))):=by
    simp only[Heap.copy,htk,Heap.st,hg]
    rw[if_pos ⟨hi,by omega⟩]
    simp only[Option.map_some,hmm]
   have hsp:splice cs n (rep r w)=rep q w++rep r w++cs.drop (n+m):=by
    have e:cs=rep q w++(cs.drop n).take m++cs.drop (n+m):=by
     rw[<-ht,<-List.drop_drop,List.append_assoc,List.take_append_drop,List.take_append_drop]
    have:=z0F (rep r w) ((cs.drop n).take m) (rep q w) (cs.drop (n+m)) (by rw[hrm,List.length_take,List.length_drop];omega)
    rw[hrl,<-e]at this
    exact this
   have hqr:L*(q+r)=n+m:=by rw[Nat.mul_add,en,em]
   obtain⟨H',b1,b2,b3,b4⟩:=ih (q+r) (splice cs n (rep r w)) (H.put i (.cells 1 (splice cs n (rep r w)))) (by omega) (by omega) (by omega) (put_same _ _ _) (by rw[q0C,<-eN];exact hl) (by
    rw[hsp,K0z,List.take_append_of_le_length (by rw[j0B,hw];exact nR _),List.take_of_length_le (by rw[j0B,hw];exact nR _)])
   rw[hqr,<-eN]at b1
   have hw':IntKind.wrap .i64 ((n:Int)+((m:Nat):Int))=((n+m:Nat):Int):=by rw[q0g (by omega) (by omega)];simp
   refine⟨H', ?_,b2,fun j hj=>by rw[b3 j hj,q0c hj],b4⟩
   rw[z0D]
   simp only[len_slice,oS,show((n:Int)<(N:Int)) by omega,dY,iT,s1,s2,s3,s4,hw']
   exact b1
section
variable{lim:Nat}{M:YM}(hM:CallsY lim M.ext)
include hM
theorem w1i{a b:Nat}(ha:a<=1000000)(hb:b<=1000000)(h:a*b<=1000000){H:Heap}(hl:lim<=H.next): ∃H',f110 (MH lim) (a:Int) (b:Int) H=some (.tuple [.c (.int .u64 0), .c (.int .u64 ((a*b:Nat):Int))],H')/\Grow H H':=by
 have hr:ycall M 110 [.c (.int .u64 (a:Int)), .c (.int .u64 (b:Int))]=some (.tup [.c (.int .u64 0), .c (.int .u64 ((a*b:Nat):Int))]):=w1g (M:=M) ha hb h
 obtain⟨v,H',F',k1,k2,k3,_,_,_,k4⟩:=(j0X (vext:=awExt 8) (yext:=M.ext) (prog:=progOf 8 prog true) (lim:=lim) k0r hM) 110 _ _ hr H (fun _=>False) [.c (.int .u64 (a:Int)), .c (.int .u64 (b:Int))] hl (fun _ h=>h.elim) (q1S ⟨rfl,rfl,rfl⟩ ⟨rfl,rfl,rfl⟩)
 refine⟨H', ?_,⟨k2,k3⟩⟩
 obtain⟨vs,rfl,v1,vs1,rfl,⟨_,u1⟩,v2,vs2,rfl,⟨_,u2⟩,e⟩:=k4
 cases e
 rw[u1.c_eq,u2.c_eq]at k1
 exact k1
theorem J1B{H:Heap}{c:C}{w:List Int}{k:Nat}(h:Ints H c w)(hw:1<=w.length)(hk:1<=k)(hb:w.length*k<=1000000)(hl:lim<=H.next): ∃j H',f95 (MH lim) c (k:Int) H=some (.c (.slice j 0 (w.length*k)),H')/\Grow H H'/\H.next<=j/\j<H'.next/\H'.get j=some (.cells 1 (rep k (w.map (C.int .i64)))):=by
 have hwk:w.length<=w.length*k:=Nat.le_mul_of_pos_right _ hk
 have hkw:k<=w.length*k:=Nat.le_mul_of_pos_left _ hw
 have m0:IntKind.wrap .u64 (w.length:Int)=(w.length:Int):=Q0K (by omega) (by omega)
 have m3:IntKind.wrap .u64 (k:Int)=(k:Int):=Q0K (by omega) (by omega)
 have m4:IntKind.wrap .i64 ((w.length*k:Nat):Int)=((w.length*k:Nat):Int):=q0g (by omega) (by omega)
 have hlen:C.len c=some w.length:=h.len
 obtain⟨H1,p1,p2⟩:=w1i hM (a:=w.length) (b:=k) (by omega) (by omega) hb hl
 have hl1:lim<=H1.next:=nT hl p2.next
 have h':Ints H1 c w:=h.grow p2
 have f1:f95 (MH lim) c (k:Int) H=f95_2 (MH lim) c ((w.length*k:Nat):Int) H1:=by
  rw[w1O,W0T]
  simp only[show¬((k:Int)<0) by omega,dF,bF,iF,hlen,oS,m0,m3,p1,ext_tuple,List.getElem?_cons_zero,List.getElem?_cons_succ,asC_c,asI_int]
  simp only[show¬((0:Int)<0) by omega,show¬((9223372036854775807:Int)<((w.length*k:Nat):Int)) by omega,dF,iT,oS,bF,iF]
 rw[f1,W0U]
 obtain⟨N,eN⟩: ∃N,N=w.length*k:=⟨_,rfl⟩
 rw[<-eN]at m4 hb⊢
 have hc2:(H1.alloc (.cells 1 (List.replicate N [C.int .i64 0]).flatten)).cellsOf 1 c=some (w.map (C.int .i64)):=by
  have:=Sl.cellsOf (h'.grow (.alloc H1 (.cells 1 (List.replicate N [C.int .i64 0]).flatten)))
  rwa [j0g]at this
 simp only[m4,show(0:Int)<=(N:Int)/\(N:Int)<=2 ^ 36 by omega,and_self,iT,iN,hc2,hlen,oS]
 have hget:(H1.alloc (.cells 1 (List.replicate N [C.int .i64 0]).flatten)).get H1.next=some (.cells 1 (List.replicate N (C.int .i64 0))):=by rw[alloc_new,w0A]
 have hmin:Nat.min w.length N=w.length:=Nat.min_eq_left (by omega)
 have htk:(w.map (C.int .i64)).take (Nat.min w.length N)=w.map (C.int .i64):=by rw[hmin,List.take_of_length_le (by simp)]
 have hcp:Heap.copy (MH lim).lim (H1.alloc (.cells 1 (List.replicate N [C.int .i64 0]).flatten)) 1 (.slice H1.next 0 N) (w.map (C.int .i64)) w.length=some (w.length,(H1.alloc (.cells 1 (List.replicate N [C.int .i64 0]).flatten)).put H1.next (.cells 1 (splice (List.replicate N (C.int .i64 0)) 0 (w.map (C.int .i64))))):=by
  simp only[Heap.copy,Heap.st,hget,Nat.mul_one,htk]
  rw[if_pos ⟨hl1,by rw[List.length_replicate,List.length_map];omega⟩]
  simp only[Option.map_some,hmin]
 simp only[hcp,oS]
 have n1:=p2.next
 have hspl:splice (List.replicate N (C.int .i64 0)) 0 (w.map (C.int .i64))=w.map (C.int .i64)++List.replicate (N - w.length) (C.int .i64 0):=by
  have:=z0F (w.map (C.int .i64)) (List.replicate w.length (C.int .i64 0)) [] (List.replicate (N - w.length) (C.int .i64 0)) (by simp)
  rw[List.nil_append,List.nil_append,List.replicate_append_replicate,show w.length+(N - w.length)=N by omega]at this
  exact this
 obtain⟨H',b1,b2,b3,b4⟩:=j1F (M:=MH lim) (i:=H1.next) (L:=w.length) (k:=k) (w:=w.map (C.int .i64)) hl1 (by simp) hw (by omega) k 1 (splice (List.replicate N (C.int .i64 0)) 0 (w.map (C.int .i64))) ((H1.alloc (.cells 1 (List.replicate N [C.int .i64 0]).flatten)).put H1.next (.cells 1 (splice (List.replicate N (C.int .i64 0)) 0 (w.map (C.int .i64))))) (by omega) (nR 1) hk (put_same _ _ _) (by rw[q0C,List.length_replicate,eN]) (by
  rw[hspl,Nat.mul_one,j1D,List.take_append_of_le_length (by simp),List.take_of_length_le (by simp)])
 rw[Nat.mul_one,<-eN]at b1
 exact⟨_,H',b1,p2.trans ⟨by rw[b2];simp,fun j hj=>by rw[b3 j (by omega),q0c (by omega),q0d hj]⟩,n1,by rw[b2];simp,b4⟩
end
structure ShortR (w0 w1 v0 v1:List Int):Prop where
 same: ∀i,letr v0 v1 i=letr w0 w1 i
 l0:v0.length<=w0.length
 l1:v1.length<=w1.length
 pos:0<v1.length
theorem ShortR.refl{w0 w1:List Int}(h:0<w1.length):ShortR w0 w1 w0 w1:=⟨fun _=>rfl,nR _,nR _,h⟩
theorem ShortR.trans{w0 w1 v0 v1 u0 u1:List Int}(h:ShortR w0 w1 v0 v1)(k:ShortR v0 v1 u0 u1):ShortR w0 w1 u0 u1:=⟨fun i=>(k.same i).trans (h.same i),nT k.l0 h.l0,nT k.l1 h.l1,k.pos⟩
theorem z0v{l:List Int}{i:Nat}{x:Int}(h:l[i]? =some x):at0 l i=x:=by
 unfold at0;rw[lG,h];rfl
theorem Z0o{w0 w1 t:List Int}{k:Nat}(ht:0<t.length)(hk:0<k)(h:w1=rep k t):ShortR w0 w1 w0 t:=by
 have hl:w1.length=t.length*k:=by rw[h,j0B]
 have hle:t.length<=t.length*k:=Nat.le_mul_of_pos_right _ hk
 refine⟨fun i=> ?_,nR _,by omega,ht⟩
 unfold letr
 by_cases hi:i<w0.length
 ·rw[if_pos hi,if_pos hi]
 ·rw[if_neg hi,if_neg hi]
  have hm:(i - w0.length) % w1.length<t.length*k:=by rw[hl];exact Nat.mod_lt _ (by omega)
  have e1:=j1E t k _ hm
  rw[<-h]at e1
  have e2:(i - w0.length) % w1.length % t.length=(i - w0.length) % t.length:=by rw[hl];exact Nat.mod_mod_of_dvd _ (Nat.dvd_mul_right _ _)
  rw[e2]at e1
  have e3:t[(i - w0.length) % t.length]? =some (t[(i - w0.length) % t.length]'(Nat.mod_lt _ ht)):=q0a _
  rw[z0v e3,z0v (e1.trans e3)]
theorem Y0g(p q:List Int)(x:Int):ShortR (p++[x]) (q++[x]) p (x::q):=by
 refine⟨fun i=> ?_,by simp,by simp,by simp⟩
 unfold letr
 by_cases h1:i<p.length
 ·rw[if_pos h1,if_pos (by simp;omega)]
  unfold at0
  rw[lG,lG,List.getElem?_append_left h1]
 ·rw[if_neg h1]
  by_cases h2:i=p.length
  ·subst h2
   rw[if_pos (by simp),Nat.sub_self,Nat.zero_mod]
   rw[z0v (x:=x) (by simp),z0v (x:=x) (by simp)]
  ·rw[if_neg (by simp;omega)]
   obtain⟨k,hk⟩: ∃k,i - p.length=k+1:=⟨i - p.length - 1,by omega⟩
   have e1:i - (p++[x]).length=k:=by simp;omega
   rw[e1,hk]
   have hL:(x::q).length=q.length+1:=by simp
   have hL':(q++[x]).length=q.length+1:=by simp
   rw[hL,hL',X0h (show 0<q.length+1 by omega)]
   have hr:=Nat.mod_lt k (show 0<q.length+1 by omega)
   by_cases h3:k % (q.length+1)+1=q.length+1
   ·rw[if_pos h3,z0v (x:=x) (by simp)]
    have e3:k % (q.length+1)=q.length:=by omega
    rw[e3,z0v (x:=x) (by simp)]
   ·rw[if_neg h3]
    have h4:k % (q.length+1)<q.length:=by omega
    unfold at0
    rw[lG,lG,List.getElem?_cons_succ,List.getElem?_append_left h4]
theorem ShortR.letters{w0 w1 v0 v1:List Int}(h:ShortR w0 w1 v0 v1)(hw:0<w1.length)(hl:(w0++w1).all ltr=true):(v0++v1).all ltr=true:=by
 rw[List.all_eq_true]
 intro x hx
 obtain⟨i,hi⟩:=List.mem_iff_getElem?.1 hx
 have hil:=(gE.1 hi).1
 rw[List.length_append]at hil
 have:=K0u (k:=i) hw hl
 rw[<-h.same i,j0Y hil,z0v hi]at this
 exact this
def HasRep(M:YM):Prop:= ∀(b:Bool) (w:List Int) (k:Nat),1<=w.length->1<=k->w.length*k<=1000000->y95 M (uIs b w) (k:Int)=some (.val (uIs true (rep k w)))
section
variable{M:YM}
theorem q1A{b1 b2:Bool}{l r:List Int}(hn:l.length=r.length)(hl:l.length<=1000000): ∀(d i:Nat),i+d=l.length->y117_1 M (uIs b1 l) (uIs b2 r) (l.length:Int) (i:Int)=some (.val (.c (.bool (decide (l.drop i=r.drop i))))):=by
 intro d
 induction d with
 |zero=>
  intro i hi
  rw[Z0f,dL (by omega),dL (by omega)]
  simp only[show¬((i:Int)<(l.length:Int)) by omega,dF,bF,iF,dY]
 |succ d ih=>
  intro i hi
  have h1:i<l.length:=by omega
  have h2:i<r.length:=by omega
  rw[Z0f,List.drop_eq_getElem_cons h1,List.drop_eq_getElem_cons h2]
  simp only[show((i:Int)<(l.length:Int)) by omega,dY,iT,q0H (q0a h1),q0H (q0a h2),oS,cell_c,asI_c,q0b (show i<=1000000000 by omega),ih (i+1) (by omega)]
  by_cases e:l[i]=r[i]
  ·simp only[e,dY,Bool.not_true,bF,iF,List.cons.injEq,true_and]
  ·simp only[e,dF,Bool.not_false,iT,List.cons.injEq,false_and]
theorem Q1Y{b1 b2:Bool}{l r:List Int}(hl:l.length<=1000000):y117 M (uIs b1 l) (uIs b2 r)=some (.val (.c (.bool (decide (l=r))))):=by
 rw[Q1C]
 simp only[len_uIs,oS]
 by_cases h:l.length=r.length
 ·have:=q1A (M:=M) (b1:=b1) (b2:=b2) h hl l.length 0 (by omega)
  simp only[show((l.length:Int)=(r.length:Int)) by omega,dY,Bool.not_true,bF,iF]
  rw[h]at this
  exact this
 ·have:l≠r:=fun e=>h (by rw[e])
  simp only[show¬((l.length:Int)=(r.length:Int)) by omega,dF,Bool.not_false,iT,this]
theorem Q1Z(l:List Int):(l.map uI).all (fun v=>v.size==1)=true:=by
 rw[List.all_eq_true];intro x hx;obtain⟨n,_,rfl⟩:=List.mem_map.1 hx;rfl
structure SxR (s:Sx) (l:List Int):Prop where
 es:s.es=l.map uI
 sz:s.b=true->s.sz=1
 nil:s.b=false->l=[]
theorem SxR.fz{s:Sx}{l:List Int}(h:SxR s l):Sx.fz s=uIs s.b l:=by unfold Sx.fz uIs;rw[h.es]
theorem SxR.len{s:Sx}{l:List Int}(h:SxR s l):s.es.length=l.length:=by rw[h.es,List.length_map]
theorem q1B{b:Bool}{l:List Int}(hb:b=false->l=[])(hl:l.length<=1000000): ∃s,y116 M (uIs b l)=some (.sl s)/\SxR s l/\s.b=b:=by
 rw[Q1B]
 cases b with
 |false=>
  rw[hb rfl]
  exact⟨⟨false,0,[]⟩,rfl,⟨rfl,fun h=>(by cases h),fun _=>rfl⟩,rfl⟩
 |true=>
  refine⟨⟨true,1,l.map uI⟩, ?_,⟨rfl,fun _=>rfl,fun h=>(by cases h)⟩,rfl⟩
  have hr:roomy (([]:List U).length+(l.map uI).length):=by show _<=_;simp;omega
  have ha:Sx.app (⟨true,1,[]⟩:Sx) 1 (l.map uI)=some ⟨true,1,l.map uI⟩:=by
   unfold Sx.app
   rw[if_pos ⟨.inr rfl,Q1Z l,hr⟩,if_neg (by simp)]
   simp
  have e1:U.isNil .slice (uIs true l)=some false:=rfl
  have e2:U.asL (uIs true l)=some (true,l.map uI):=rfl
  simp only[e1,e2,oS,bne_self_eq_false,bF,iF,ha,k0R,iT]
theorem w0U{l:List Int}{k:Nat}(h:k<=l.length):subU 1 (l.map uI) 0 (some (k:Int))=some ((l.take k).map uI):=by
 unfold subU
 rw[if_pos ⟨by omega,by simp,by simpa using h,Q1Z l⟩]
 simp[List.map_take]
theorem Z0p{x0 x1:Sx}: ∀(m:Nat) (p q:Sx) (v0 v1:List Int),v0.length=m->v0.length+v1.length<=1000000->SxR p v0->SxR q v1->q.b=true->0<v1.length->
  ∃b' u0 u1,y113_2 M x0 x1 p q=some (.val (.st [uIs b' u0,uIs true u1]))/\ShortR v0 v1 u0 u1/\(b'=false->u0=[]):=by
 intro m
 induction m with
 |zero=>
  intro p q v0 v1 hm hn hp hq hqb hv
  obtain rfl:v0=[]:=List.length_eq_zero_iff.1 hm
  refine⟨p.b,[],v1, ?_, .refl hv,fun _=>rfl⟩
  rw[w0N]
  have hl:=hp.len
  simp only[hl,List.length_nil,show¬((0:Int)<((0:Nat):Int)) by omega,dF,bF,iF,oS,hp.fz,hq.fz,hqb]
 |succ m ih=>
  intro p q v0 v1 hm hn hp hq hqb hv
  rcases List.eq_nil_or_concat v0 with e |⟨p0,x,e⟩
  ·rw[e]at hm;cases hm
  rcases List.eq_nil_or_concat v1 with e' |⟨q0,y,e'⟩
  ·rw[e']at hv;cases hv
  rw[List.concat_eq_append]at e e'
  subst e e'
  have hpb:p.b=true:=by
   cases h:p.b with
   |true=>rfl
   |false=>have:=hp.nil h;simp at this
  have psz:=hp.sz hpb
  have qsz:=hq.sz hqb
  have hlp:=hp.len
  have hlq:=hq.len
  simp only[List.length_append,List.length_cons,List.length_nil,Nat.zero_add]at hm hlp hlq hn
  have w1:IntKind.wrap .i64 (((p0.length+1:Nat):Int) - 1)=(p0.length:Int):=by rw[q0g (by omega) (by omega)];omega
  have w2:IntKind.wrap .i64 (((q0.length+1:Nat):Int) - 1)=(q0.length:Int):=by rw[q0g (by omega) (by omega)];omega
  have has1:Sx.has p 1 (p0.length:Int)=true:=by
   unfold Sx.has
   rw[hlp,psz];simp;omega
  have has2:Sx.has q 1 (q0.length:Int)=true:=by
   unfold Sx.has
   rw[hlq,qsz];simp;omega
  have g1:p.es[p0.length]? =some (uI x):=by rw[hp.es];simp
  have g2:q.es[q0.length]? =some (uI y):=by rw[hq.es];simp
  by_cases exy:x=y
  ·subst exy
   have s1:subU 1 p.es 0 (some (p0.length:Int))=some (p0.map uI):=by
    rw[hp.es,w0U (by simp)];simp
   have s2:subU 1 q.es 0 (some (q0.length:Int))=some (q0.map uI):=by
    rw[hq.es,w0U (by simp)];simp
   have tk:(q.es.drop (0:Int).toNat).take (q0.map uI).length=q0.map uI:=by
    rw[hq.es];simp
   have hr:roomy ([uI x].length+(q0.map uI).length):=by show _<=_;simp;omega
   have ha:Sx.app (⟨true,1,[.c (.int .i64 x)]⟩:Sx) 1 (q0.map uI)=some ⟨true,1,(x::q0).map uI⟩:=by
    unfold Sx.app
    rw[if_pos ⟨.inr rfl,Q1Z q0,hr⟩,if_neg (by simp)]
    simp[uI]
   have hp':SxR (Sx.win p (0:Int).toNat (p0.map uI).length) p0:=by
    refine⟨?_,fun _=>psz,fun h=> ?_⟩
    ·unfold Sx.win;rw[hp.es];simp
    ·have:p.b=false:=h
     rw[hpb]at this;cases this
   obtain⟨b',u0,u1,z1,z2,z3⟩:=ih (Sx.win p (0:Int).toNat (p0.map uI).length) ⟨true,1,(x::q0).map uI⟩ p0 (x::q0) (by omega) (by simp;omega) hp' ⟨rfl,fun _=>rfl,fun h=>(by cases h)⟩ rfl (by simp)
   refine⟨b',u0,u1, ?_,(Y0g p0 q0 x).trans z2,z3⟩
   rw[w0N,<-z1]
   simp only[hlp,hlq,show((0:Int)<((p0.length+1:Nat):Int)) by omega,dY,iT,w1,w2,has1,has2,iN,g1,g2,oS,cell_c,asI_c,hpb,psz,hqb,qsz,and_self,s1,s2,tk,ha]
  ·refine⟨p.b,p0++[x],q0++[y], ?_, .refl (by simp),hp.nil⟩
   rw[w0N]
   simp only[hlp,hlq,show((0:Int)<((p0.length+1:Nat):Int)) by omega,dY,iT,w1,w2,has1,has2,iN,g1,g2,oS,cell_c,asI_c,exy,dF,bF,iF,hp.fz,hq.fz,hqb]
variable(hR:HasRep M)
include hR
theorem q1C{x0 x1 p q:Sx}{v0 v1:List Int}(hn:v0.length+v1.length<=1000)(hp:SxR p v0)(hq:SxR q v1)(hqb:q.b=true)(hv:0<v1.length): ∀(d n:Nat),n+d=v1.length->1<=n->
  ∃b' u0 u1,y113_1 M (n:Int) x0 x1 p q=some (.val (.st [uIs b' u0,uIs true u1]))/\ShortR v0 v1 u0 u1/\(b'=false->u0=[]):=by
 have hlq:=hq.len
 have qsz:=hq.sz hqb
 intro d
 induction d with
 |zero=>
  intro n hn' h1
  obtain⟨b',u0,u1,z1,z2⟩:=Z0p (M:=M) (x0:=x0) (x1:=x1) v0.length p q v0 v1 rfl (by omega) hp hq hqb hv
  refine⟨b',u0,u1, ?_,z2⟩
  rw[k0i]
  simp only[hlq,show¬((n:Int)<(v1.length:Int)) by omega,dF,bF,iF]
  exact z1
 |succ d ih=>
  intro n hn' h1
  have hlt:n<v1.length:=by omega
  obtain⟨b0,t0,t1,y1,y2⟩:=ih (n+1) (by omega) (by omega)
  have hne: ¬((n:Int)=0):=by omega
  have htm:Int.tmod (v1.length:Int) (n:Int)=((v1.length % n:Nat):Int):=J0h _ _
  have htd:Int.tdiv (v1.length:Int) (n:Int)=((v1.length / n:Nat):Int):=by rw[Int.tdiv_eq_ediv_of_nonneg (by omega)];simp
  have s1:subU 1 q.es 0 (some (n:Int))=some ((v1.take n).map uI):=by rw[hq.es,w0U (by omega)]
  have htl:(v1.take n).length=n:=by rw[List.length_take,Nat.min_eq_left (by omega)]
  have hfz:Sx.fz (Sx.win q (0:Int).toNat ((v1.take n).map uI).length)=uIs true (v1.take n):=by
   unfold Sx.fz Sx.win uIs
   rw[hq.es,hqb,List.length_map,htl];simp[List.map_take]
  by_cases hmod:v1.length % n=0
  ·have hdv:n*(v1.length / n)=v1.length:=Nat.mul_div_cancel' (Nat.dvd_of_mod_eq_zero hmod)
   have hk1:1<=v1.length / n:=Nat.div_pos (by omega) (by omega)
   have hle:v1.length / n<=v1.length:=Nat.div_le_self _ _
   have wd:IntKind.wrap .i64 ((v1.length / n:Nat):Int)=((v1.length / n:Nat):Int):=q0g (by omega) (by omega)
   have q95:=hR true (v1.take n) (v1.length / n) (by omega) hk1 (by rw[htl,hdv];omega)
   have q117:=Q1Y (M:=M) (b1:=true) (b2:=true) (l:=rep (v1.length / n) (v1.take n)) (r:=v1) (by rw[j0B,htl,hdv];omega)
   have hqf:Sx.fz q=uIs true v1:=by rw[hq.fz,hqb]
   by_cases heq:rep (v1.length / n) (v1.take n)=v1
   ·obtain⟨b',u0,u1,z1,z2,z3⟩:=Z0p (M:=M) (x0:=x0) (x1:=x1) v0.length p (Sx.win q (0:Int).toNat ((v1.take n).map uI).length) v0 (v1.take n) rfl (by omega) hp ⟨by
     unfold Sx.win;rw[hq.es,List.length_map,htl];simp[List.map_take],fun _=>qsz,fun h=>by
     have:q.b=false:=h
     rw[hqb]at this;cases this⟩ hqb (by omega)
    refine⟨b',u0,u1, ?_,(Z0o (by omega) hk1 heq.symm).trans z2,z3⟩
    rw[heq]at q95 q117
    rw[k0i,<-z1]
    simp only[hlq,show((n:Int)<(v1.length:Int)) by omega,dY,iT,hne,iF,htm,hmod,show(((0:Nat):Int)=0)from rfl,qsz,hqb,and_self,s1,oS,htd,wd,hfz,q95,toU_val,one_uIs,hqf,q117,asB_c]
   ·refine⟨b0,t0,t1, ?_,y2⟩
    rw[k0i,<-y1]
    simp only[hlq,show((n:Int)<(v1.length:Int)) by omega,dY,iT,hne,iF,htm,hmod,show(((0:Nat):Int)=0)from rfl,qsz,hqb,and_self,s1,oS,htd,wd,hfz,q95,toU_val,one_uIs,hqf,q117,asB_c,heq,dF,bF,q0b (show n<=1000000000 by omega)]
  ·refine⟨b0,t0,t1, ?_,y2⟩
   rw[k0i,<-y1]
   have hm2: ¬(((v1.length % n:Nat):Int)=0):=by omega
   simp only[hlq,show((n:Int)<(v1.length:Int)) by omega,dY,iT,hne,iF,htm,hm2,dF,bF,oS,q0b (show n<=1000000000 by omega)]
omit hR in
theorem K1d(u1 u2:U)(b1 b2:Bool)(l1 l2:List Int)(h1:u1=uIs b1 l1)(h2:u2=uIs b2 l2): ∃f,U.exact (.st [u1,u2]) ks1=some f/\f 0=u1/\f 1=u2:=by
 subst h1 h2;exact⟨_,rfl,rfl,rfl⟩
theorem K1e{b1 b2:Bool}{w0 w1:List Int}(hb1:b1=false->w0=[])(hb2:b2=false->w1=[])(hn:w0.length+w1.length<=1000000)(hw:0<w1.length)(hl:(w0++w1).all ltr=true):
  (60<w0.length+w1.length/\y77 M (uIs b1 w0) (uIs b2 w1)=some (.tup [.st [uIs false [],uIs false []],uI 2]))\/
  (w0.length+w1.length<=60/\ ∃b' v0 v1,y77 M (uIs b1 w0) (uIs b2 w1)=some (.tup [.st [uIs b' v0,uIs true v1],uI 0])/\ShortR w0 w1 v0 v1/\(b'=false->v0=[])):=by
 have wl:IntKind.wrap .i64 ((w0.length:Int)+(w1.length:Int))=((w0.length+w1.length:Nat):Int):=by rw[q0g (by omega) (by omega)];simp
 by_cases h60:60<w0.length+w1.length
 ·refine .inl ⟨h60, ?_⟩
  rw[w1H]
  simp only[len_uIs,oS,wl,show((60:Int)<((w0.length+w1.length:Nat):Int)) by omega,dY,iT]
  rfl
 ·refine .inr ⟨by omega, ?_⟩
  have q84:=Z1K (M:=M) (b1:=b1) (b2:=b2) (l:=w0) (r:=w1) hn
  have hwe:wErr w0 w1=0:=by unfold wErr;rw[if_neg (by omega),if_neg h60,if_pos hl]
  rw[hwe]at q84
  obtain⟨s0,a1,a2,a3⟩:=q1B (M:=M) hb1 (show w0.length<=1000000 by omega)
  obtain⟨s1,c1,c2,c3⟩:=q1B (M:=M) hb2 (show w1.length<=1000000 by omega)
  have hb2':b2=true:=by
   cases h:b2 with
   |true=>rfl
   |false=>rw[hb2 h]at hw;cases hw
  obtain⟨b',v0,v1,z1,z2,z3⟩:=q1C hR (M:=M) (x0:=⟨false,0,[]⟩) (x1:=⟨false,0,[]⟩) (by omega) a2 c2 (by rw[c3,hb2']) hw (w1.length - 1) 1 (by omega) (nR 1)
  have q113:y113 M (uIs b1 w0) (uIs b2 w1)=some (.val (.st [uIs b' v0,uIs true v1])):=by
   rw[Q1A]
   simp only[a1,c1,oS,asSl_sl]
   exact z1
  obtain⟨f,f0,f1,f2⟩:=K1d (uIs b' v0) (uIs true v1) _ _ _ _ rfl rfl
  have q105:y105 M (uIs b1 w0) (uIs b2 w1)=some (.tup [.st [uIs b' v0,uIs true v1],uI 0]):=by
   rw[Q1w]
   simp only[q84,oS,toU_val,asI_uI,dY,Bool.not_true,bF,iF,q113,f0,f1,f2]
  refine⟨b',v0,v1, ?_,z2,z3⟩
  rw[w1H]
  simp only[len_uIs,oS,wl,show¬((60:Int)<((w0.length+w1.length:Nat):Int)) by omega,dF,bF,iF,q105,asTup_tup,List.getElem?_cons_zero,List.getElem?_cons_succ,f0,f1,f2,asI_uI]
end
theorem w0j{H:Heap}{F:Nat->Prop}: ∀(l:List Int) (cs:List C),EsR H F (l.map uI) 1 cs->cs=l.map (C.int .i64)
 | [],cs,h=>h
 |b::l,cs,h=>by
  obtain⟨a,r,rfl,h1,h2,h3⟩:=h
  obtain⟨_,rfl⟩:=h2
  rw[w0j l r h3];rfl
theorem Y0h{H:Heap}{F:Nat->Prop}{b:Bool}{l:List Int}{c:C}(h:UC H F (uIs b l) [c])(hF: ∀i,F i->i<H.next):Ints H c l:=by
 refine⟨fun r hr=>by obtain⟨x,_,rfl⟩:=List.mem_map.1 hr;rfl, ?_⟩
 rcases h with⟨_,h1,h2⟩ |⟨_,i,o,cs,sz,e,h1,h2,h3,h4⟩
 ·refine .inl ⟨by simpa using h2, ?_⟩
  have:l=[]:=by simpa using h1
  rw[this];rfl
 ·have e':c= .slice i o l.length:=by simpa using e
  subst e'
  simp only[List.length_map]at h3 h4
  refine .inr ⟨i,o,sz,cs,by simp,hF i h1,h2, ?_, ?_⟩
  ·cases l with
   |nil=>simp at h3⊢;exact h3
   |cons x l=>
    have hs:(uI x).size=sz:=h4.sizes (uI x) (by simp)
    have:sz=1:=by rw[<-hs];rfl
    subst this
    simpa using h3
  ·rw[j0g]
   cases l with
   |nil=>simp
   |cons x l=>
    have hs:(uI x).size=sz:=h4.sizes (uI x) (by simp)
    have:sz=1:=by rw[<-hs];rfl
    subst this
    rw[List.length_map]
    exact w0j (x::l) _ h4
theorem X0k{H:Heap}{b:Nat}{c:C}{l:List Int}{F:Nat->Prop}(h:OInts H b c l)(hF: ∀i,b<=i->i<H.next->F i): ∃bb:Bool,UC H F (uIs bb l) [c]/\(bb=false->l=[]):=by
 obtain⟨h1,h2,⟨rfl,h3⟩ |⟨i,o,cs,rfl,h3,h4,h5,h6,h7⟩⟩:=h
 ·have:l=[]:=by simpa using h3
  exact⟨false, .inl ⟨rfl,by rw[this];rfl,rfl⟩,fun _=>this⟩
 ·simp only[List.length_map]at h6 h7
  refine⟨true, .inr ⟨rfl,i,o,cs,1,by simp,hF i h3 h4,h5,by simpa using h6, ?_⟩,fun h=>(by cases h)⟩
  rw[List.length_map,h7]
  exact k0t l
def RepP(us:List U)(r:Rz):Prop:= ∃(b:Bool) (w:List Int) (k:Nat),us=[uIs b w,uI (k:Int)]/\1<=w.length/\1<=k/\w.length*k<=1000000/\r= .val (uIs true (rep k w))
theorem k1E(us:List U)(r r':Rz)(h:RepP us r)(h':RepP us r'):r=r':=by
 obtain⟨b,w,k,rfl,_,_,_,rfl⟩:=h
 obtain⟨b',w',k',e,_,_,_,rfl⟩:=h'
 simp only[List.cons.injEq,and_true]at e
 have h0:=Q0B e.2
 have hk:k=k':=by omega
 rw[hk,(J0X e.1).2]
theorem J1k(lim:Nat):CallsY lim (fun f us=>if f=95 then pickZ RepP us else none):=by
 intro f us r h H F vs hl hF hv
 by_cases hf:f=95
 ·subst hf
  simp only[iT]at h
  obtain⟨b,w,k,rfl,e1,e2,e3,rfl⟩:=J0Y h
  obtain⟨v1,_,rfl,g1,v2,_,rfl,g2,rfl⟩:=hv
  obtain⟨c,rfl,g3⟩:=g1.one rfl
  have:=g2.int
  subst this
  obtain⟨j,H',z1,z2,z3,z4,z5⟩:=J1B (M:=MA) (Z0a lim) (Y0h g3 hF) e1 e2 e3 hl
  have hmd:md 95=[.va]:=by kernel_rfl
  have q1:f95 (MH lim) c (k:Int) H=some (.c (.slice j 0 (w.length*k)),H'):=z1
  refine⟨.c (.slice j 0 (w.length*k)),H',fun i=>F i\/i=j,q1,z2.next,z2.keep,fun i h=> .inl h,fun i h=>h.imp id fun e=>by omega,fun i h=> ?_, ?_⟩
  ·rcases h with h |h
   ·have:=hF i h;have:=z2.next;omega
   ·omega
  ·rw[hmd]
   refine⟨rfl, .inr ⟨rfl,j,0,_,1,by simp[j0B], .inr rfl,z5,by simp[j0B], ?_⟩⟩
   rw[List.drop_zero,List.take_of_length_le (by simp[j0B]),<-J1A,<-j0g]
   exact k0t _
 ·simp only[if_neg hf]at h
  cases h
noncomputable def yExtU:YCallT:=fun f us=>if f=40 then pickZ UsP us else if f=95 then pickZ RepP us else yExtA f us
theorem J0w(lim:Nat):CallsY lim yExtU:=J0Z (K1N lim) (J0Z (J1k lim) (Z0a lim))
noncomputable def MU:YM:=⟨yExtU⟩
theorem K1l:HasRep MU:=fun b w k h1 h2 h3=>by
 unfold y95 yrunM
 rw[w0d]
 have:Vm.ystepR MU.ext yprog md (Vm.yrun MU.ext yprog md) 95 0 [.val (uIs b w), .val (.c (.int .i64 (k:Int)))] []=yExtU 95 [uIs b w,uI (k:Int)]:=by kernel_rfl
 rw[this]
 show pickZ RepP [uIs b w,uI (k:Int)]=_
 exact w0L k1E ⟨b,w,k,rfl,h1,h2,h3,rfl⟩
theorem K1m:HasRev MU:=fun b n rows hn hT=>⟨revT rows,by
 unfold y82 yrunM
 rw[w0d]
 have:Vm.ystepR MU.ext yprog md (Vm.yrun MU.ext yprog md) 82 0 [.val (uLs b rows)] []=yExtU 82 [uLs b rows]:=by kernel_rfl
 rw[this]
 show pickZ RevP [uLs b rows]=_
 exact w0L z1J ⟨b,n,rows,rfl,hn,hT,rfl⟩,w1D hT⟩
theorem W1l{a:Nat}{b1 b2 b3:Bool}{l:List Int}{es:List E4}{xs:List (Bool×List Int)}(e1:aErr (a:Int) l es xs=0)(e2:l.length<=1000000)(e3: ∀x∈xs,x.2.length<=1000000):y40 MU (a:Int) (uIs b1 l) (uEs b2 es) (uLs b3 xs)=some (.val (setU (usefulL a l es xs))):=by
 unfold y40 yrunM
 rw[w0d]
 have:Vm.ystepR MU.ext yprog md (Vm.yrun MU.ext yprog md) 40 0 [.val (.st [.c (.int .i64 (a:Int)),uIs b1 l,uEs b2 es,uLs b3 xs])] []=yExtU 40 [.st [uI (a:Int),uIs b1 l,uEs b2 es,uLs b3 xs]]:=by kernel_rfl
 rw[this]
 show pickZ UsP _=_
 exact w0L J1X ⟨a,b1,l,b2,es,b3,xs,rfl,e1,e2,e3,rfl⟩
theorem callT{lim:Nat}{M:YM}(hM:CallsY lim M.ext){f:FuncId}{us us':List U}(h:ycall M f us=some (.tup us')){m1 m2:RM}(hm:md f=[m1,m2]){H:Heap}{F:Nat->Prop}{vs:List V}(hl:lim<=H.next)(hF: ∀i,F i->i<H.next)(hv:UVs H F us vs):
  ∃ws H' F',mcall (MH lim) f vs H=some (.tuple ws,H')/\FrX none H F H' F'/\UVs H' F' us' ws:=
 Rz.callT (md:=md) (j0X (vext:=awExt 8) (yext:=M.ext) (prog:=progOf 8 prog true) (lim:=lim) k0r hM) h hm hl hF hv
theorem k1F{H:Heap}{F:Nat->Prop}{u1 u2:U}{e:Int}{ws:List V}(h:UVs H F [.st [u1,u2],uI e] ws): ∃d0 d1,ws=[.agg [d0,d1], .c (.int .i64 e)]/\UC H F u1 [d0]/\UC H F u2 [d1]:=by
 obtain⟨v,_,rfl,h1,v2,_,rfl,h2,rfl⟩:=h
 have:=h2.int
 subst this
 cases v with
 |c c=>exact absurd h1.1 (by simp[U.isSt])
 |tuple _=>exact h1.elim
 |agg xs=>
  obtain⟨us,e,hx⟩:=h1
  cases e
  obtain⟨d0,_,rfl,_,k0,d1,_,rfl,_,k1,rfl⟩:=hx
  exact⟨d0,d1,rfl,k0,k1⟩
theorem Y0i{l:List Int}(h: ∀x∈l,0<=x):natI (l.map Int.toNat)=l:=by
 unfold natI
 rw[List.map_map]
 refine(List.map_congr_left fun x hx=> ?_).trans (List.map_id l)
 have:=h x hx
 show((x.toNat:Nat):Int)=x
 omega
def mayW(ls:List (List Bool))(v:Nat):Bool:=decide (ls.length=0)||(ls.getD 0 []).getD v false
theorem K1n{M:Mach}{b n:Nat}{H0:Heap}{F:Nat->Prop}{b3:Bool}{ls:List (List Bool)}{cs:C}{j:Nat}(hF: ∀i,F i->i<b)(hls: ∀l∈ls,l.length=n)(hu:UC H0 F (.sl b3 (ls.map setU)) [cs])(hj:j<b)(hg:H0.get j=some (.cells 1 [cs])):PredC M b H0 (.func 74 [] [.ptr j 0]) n (mayW ls):=by
 refine⟨_,rfl,fun H f v hv=> ?_⟩
 have e:H.get j=some (.cells 1 [cs]):=by rw[f.old j hj];exact hg
 have hk:=lenS hu
 have:f74 M (v:Int) (.ptr j 0) H=some (.c (.bool (mayW ls v)),H):=by
  rw[Z1Q]
  by_cases h0:ls.length=0
  ·have:mayW ls v=true:=by simp[mayW,h0]
   rw[this]
   simp only[asP_ptr,oS,q0f e,List.getElem?_cons_zero,hk,h0,show(((0:Nat):Int)=0)from rfl,dY,Bool.true_eq_false,iF]
  ·have hg0:ls[0]? =some (ls[0]'(by omega)):=q0a (by omega)
   have hl0:=hls _ (lM (show 0<ls.length by omega))
   obtain⟨i,o,c2,r1,r2,r3,r4⟩:=rdS (j0F hu f hF) hg0
   have hvl:v<(ls[0]'(by omega)).length:=by omega
   obtain⟨i2,o2,r5,r6,r7⟩:=rdB r4 (q0a hvl)
   have r1':C.elem 1 cs 0=some (i,o):=r1
   have hm:mayW ls v=(ls[0]'(by omega))[v]:=by
    unfold mayW
    rw[lG (l:=ls),hg0]
    simp only[h0,dF,Bool.false_or,Option.getD_some]
    rw[lG,q0a hvl];rfl
   rw[hm]
   simp only[asP_ptr,oS,q0f e,List.getElem?_cons_zero,hk,show¬((ls.length:Int)=0) by omega,dF,iT,r1',r3,r5,r7,asB_bool]
 exact this
def WordSpec(a:Nat)(l:List Int)(es:List E4)(xs:List (Bool×List Int))(v0 v1:List Int)(e:Int):Prop:=
 (e=25/\v0=[]/\v1=[]/\ ∀v,¬inB (usefulL a l es xs) v)\/
 ((
  ∃v,inB (usefulL a l es xs) v)/\((e=2/\v0=[]/\v1=[]/\(20<a\/2<xs.length))\/
  (e=0/\0<v1.length/\v0.length+v1.length<=60/\(v0++v1).all ltr=true/\Acc (auL l es xs) (wrd v0 v1))))
section
variable{a:Nat}{l:List Int}{es:List E4}{xs:List (Bool×List Int)}{pre lp:List Nat}{w:List Int}
theorem q1Y(ok:es.all (eOK (a:Int))=true)(hI:LetsI es pre lp w)(hw:w.length=pre.length+lp.length)(hp:0<lp.length):(w.take pre.length++w.drop pre.length).all ltr=true/\LetR es pre lp (w.take pre.length) (w.drop pre.length):=by
 have hbt: ∀j x,w[j]? =some x-> ∃e∈es,e.f=((stL pre lp j:Nat):Int)/\e.t=((stL pre lp (if j+1=pre.length+lp.length then pre.length else j+1):Nat):Int)/\cr e=true/\x=e.n/\btw e.n 0 4095=true:=fun j x hj=>by
  obtain⟨e,e1,e2,e3,e4,e5⟩:=hI j x hj
  obtain⟨k,hk⟩:=List.mem_iff_getElem?.1 e1
  exact⟨e,e1,e2,e3,e4,e5,(w0l ok hk).2.2.1⟩
 have hall:(w.take pre.length++w.drop pre.length).all ltr=true:=by
  rw[List.take_append_drop,List.all_eq_true]
  intro x hx
  obtain⟨j,hj⟩:=List.mem_iff_getElem?.1 hx
  obtain⟨e,_,_,_,_,e5,e6⟩:=hbt j x hj
  rw[e5];exact e6
 have l0:(w.take pre.length).length=pre.length:=by rw[List.length_take,Nat.min_eq_left (by omega)]
 have l1:(w.drop pre.length).length=lp.length:=by rw[List.length_drop];omega
 refine⟨hall,l0,l1,fun i=> ?_,fun p hpn=> ?_⟩
 ·have:=K0u (k:=i) (by omega) hall
  simp only[btw,dE]at this
  exact this.1
 ·have hg:w[p]? =some (w[p]'(by omega)):=q0a (by omega)
  obtain⟨e,e1,e2,e3,e4,e5,e6⟩:=hbt p _ hg
  refine⟨e,e1,e2, ?_, ?_⟩
  ·unfold toP;rw[l0];exact e3
  ·rw[j0Y (by omega),List.take_append_drop,z0v hg,e5,k1L e6];exact e4
theorem k1T{w0 w1 v0 v1:List Int}(h:ShortR w0 w1 v0 v1):wrd v0 v1=wrd w0 w1:=by
 funext i;unfold wrd;rw[h.same i]
end
theorem mayW_true{ls:List (List Bool)}{v:Nat}:mayW ls v=true↔ls.length=0\/inB (ls.getD 0 []) v:=by
 unfold mayW
 rw[Bool.or_eq_true,dE,inB_getD]
section
variable{lim:Nat}{H:Heap}{F:Nat->Prop}{a:Nat}{b1 b2 b3:Bool}{l:List Int}{es:List E4}{xs:List (Bool×List Int)}{c1 c2 c3:C}
variable(A:AU lim H F H.next a l es xs b1 b2 b3 c1 c2 c3)
include A
theorem J1t: ∃(d0 d1:C) (e:Int) (k0 k1:Bool) (v0 v1:List Int) (H':Heap) (F':Nat->Prop),f37 (MH lim) (a:Int) c1 c2 c3 H=some (.tuple [.agg [d0,d1], .c (.int .i64 e)],H')/\FrX none H F H' F'/\UC H' F' (uIs k0 v0) [d0]/\UC H' F' (uIs k1 v1) [d1]/\WordSpec a l es xs v0 v1 e:=by
 have hM:CallsY lim MU.ext:=J0w lim
 have ha:=A.ha;have hx8:=A.hx;have he:=A.he;have hlim:=A.hl
 have hT:Table a (rowsU a es):=A.tab
 have hsl:(setsU a xs).length=xs.length:=by simp[setsU]
 have hsn: ∀z∈setsU a xs,z.length=a:=fun z hz=>by obtain⟨x,_,rfl⟩:=List.mem_map.1 hz;simp
 obtain⟨cs,Ha,bb,p1,p2,p3,p4⟩:=Q1r hM A
 have n1:=p2.next
 have st7:=q0s (lim:=(MH lim).lim) (x:=cs) (alloc_new Ha (.cells 1 [C.nilSlice])) (show lim<=Ha.next by omega) (o:=0) (by simp)
 generalize hH7:(Ha.alloc (.cells 1 [C.nilSlice])).put Ha.next _=H7 at st7
 have k7:H7.get Ha.next=some (.cells 1 [cs]):=by rw[<-hH7,put_same];rfl
 have n7:H7.next=Ha.next+1:=by rw[<-hH7];rfl
 have g7:Grow Ha H7:=⟨by omega,fun i hi=>by rw[<-hH7,q0c (by omega),q0d hi]⟩
 have l7:Heap.ld H7 Ha.next 0=some cs:=by rw[q0f k7];rfl
 have gr7:Grow H H7:=p2.trans g7
 have hFa: ∀i,(F i\/(H.next<=i/\i<Ha.next))->i<H7.next:=fun i hi=>hi.elim (fun h=>by have:=A.hF i h;omega) fun h=>by omega
 have hFa': ∀i,(F i\/(H.next<=i/\i<Ha.next))->i<Ha.next:=fun i hi=>hi.elim (fun h=>by have:=A.hF i h;omega) fun h=>by omega
 have ug:UC H7 (fun i=>F i\/(H.next<=i/\i<Ha.next)) (uLs true (rowsU a es)) [.slice H.next 0 a]:=p3.mono ⟨fun _ h=>h,fun i hi=>g7.keep i (hFa' i hi)⟩
 have us:UC H7 (fun i=>F i\/(H.next<=i/\i<Ha.next)) (.sl bb ((setsU a xs).map setU)) [cs]:=p4.mono ⟨fun _ h=>h,fun i hi=>g7.keep i (hFa' i hi)⟩
 have u17:UC H7 F (uIs b1 l) [c1]:=A.u1.mono ⟨fun _ h=>h,fun i hi=>gr7.keep i (A.hF i hi)⟩
 have hnn:natI (l.map Int.toNat)=l:=Y0i fun x hx=>(A.hls.2 x hx).1
 have hrd:RdI H7.next H7 c1 (natI (l.map Int.toNat)):=by
  rw[hnn]
  exact RdI.of_uc u17 fun i hi=>by have:=A.hF i hi;omega
 have hfn: ∀s∈l.map Int.toNat,s<a:=fun s hs=>by
  obtain⟨x,hx,rfl⟩:=List.mem_map.1 hs
  have:=A.hls.2 x hx
  omega
 have hfr1: ∀s:Nat,(s:Int)∈l->s∈l.map Int.toNat:=fun s hs=>List.mem_map.2 ⟨_,hs,by simp⟩
 have hfr2: ∀s:Nat,s∈l.map Int.toNat->(s:Int)∈l:=fun s hs=>by
  obtain⟨x,hx,e⟩:=List.mem_map.1 hs
  have:=(A.hls.2 x hx).1
  rw[show(s:Int)=x by omega];exact hx
 rcases J1R hM (H:=H7) (by omega) hFa ug hT (by omega) us hsn (by omega) hrd (by rw[List.length_map];exact A.hls.1) hfn (K1n (M:=MH lim) (n:=a) hFa hsn us (by omega:Ha.next<H7.next) k7)with⟨H9,c11,c13,pre,lp,q1,q2,q3,q4,q5⟩ |⟨H9,q1,q2,q3⟩
 ·have n9:=q2.next
  have hp:=q5.pos
  obtain⟨g,gh,gm,gl,gc⟩:=q5.lead
  have hcb:=q1Z (setsU a xs) g (setsU a xs).length
  have hcm:=Nat.mul_le_mul_left a (show cnt (setsU a xs) g (setsU a xs).length<=8 by omega)
  have hpl:=q5.plen
  have hnb:pre.length+lp.length<=3000:=by omega
  have huse: ∃v,inB (usefulL a l es xs) v:=q1X hT hfr2 q5
  obtain⟨m0,u11,e11⟩:=X0k (F:=fun i=>F i\/(H.next<=i/\i<H9.next)) q3 fun i h1 h2=> .inr ⟨by omega,h2⟩
  obtain⟨m1,u13,e13⟩:=X0k (F:=fun i=>F i\/(H.next<=i/\i<H9.next)) q4 fun i h1 h2=> .inr ⟨by omega,h2⟩
  let F17:Nat->Prop:=fun i=>F i\/(H.next<=i/\i<H9.next+1)
  have hF17: ∀i,F17 i->i<(H9.alloc (.cells 1 [c11,c13])).next:=fun i hi=>hi.elim (fun h=>by have:=A.hF i h;simp;omega) fun h=>by simp;omega
  have m17:FLe H9 (fun i=>F i\/(H.next<=i/\i<H9.next)) (H9.alloc (.cells 1 [c11,c13])) F17:=⟨fun i h=>h.imp id fun h=>⟨h.1,by omega⟩,fun i hi=>q0d (hi.elim (fun h=>by have:=A.hF i h;omega) (·.2))⟩
  have u54:UC (H9.alloc (.cells 1 [c11,c13])) F17 (Sx.fz (⟨true,1,[uIs m0 (natI pre),uIs m1 (natI lp)]⟩:Sx)) [.slice H9.next 0 2]:=
   .inr ⟨rfl,H9.next,0,[c11,c13],1,rfl, .inr ⟨by omega,by omega⟩,alloc_new _ _,by simp,[c11],[c13],rfl,rfl,u11.mono m17,[c13],[],rfl,rfl,u13.mono m17,rfl⟩
  obtain⟨s,s1,s2,s3⟩:=K1h (M:=MU) (b1:=m0) (b2:=m1) (l:=natI pre) (r:=natI lp) (by rw[q0m,q0m];omega)
  obtain⟨v,H18,F18,r1,r2,r3⟩:=z0g hM (f:=54) (us:=[Sx.fz (⟨true,1,[uIs m0 (natI pre),uIs m1 (natI lp)]⟩:Sx)]) (vs:=[.c (.slice H9.next 0 2)]) s1 rfl (by simp;omega) hF17 ⟨_,[],rfl,⟨rfl,u54⟩,rfl⟩
  have hfz:Sx.fz s=uIs s.b (natI (pre++lp)):=by unfold Sx.fz uIs;rw[s2,z0H]
  rw[hfz]at r3
  obtain⟨c19,rfl,r4⟩:=r3.one rfl
  have q54:f54 (MH lim) (.slice H9.next 0 2) (H9.alloc (.cells 1 [c11,c13]))=some (.c c19,H18):=r1
  have g18:Grow H9 H18:=(Grow.alloc H9 _).trans (j0R r2)
  have n18:=g18.next
  have gr18:Grow H H18:=gr7.trans (q2.trans g18)
  have hcs:RdI H18.next H18 c19 (natI (pre++lp)):=RdI.of_uc r4 r2.lt
  have o13:OInts H18 H7.next c13 (natI lp):=q0P q4 g18
  have o11:OInts H18 H7.next c11 (natI pre):=q0P q3 g18
  have hvl:RdI H18.next H18 c13 (natI lp):=RdI.of_ints o13.ints (w0z o13)
  have u18:UC H18 F (uEs b2 es) [c2]:=A.u2.mono ⟨fun _ h=>h,fun i hi=>gr18.keep i (A.hF i hi)⟩
  have hF18: ∀i,F i->i<H18.next:=fun i hi=>by have:=A.hF i hi;have:=gr18.next;omega
  have hst: ∀j,j<pre.length+lp.length-> ∃e∈es,e.f=((stL pre lp j:Nat):Int)/\e.t=((stL pre lp (if j+1=pre.length+lp.length then pre.length else j+1):Nat):Int)/\cr e=true:=fun j hj=>by
   have h0:(List.replicate pre.length (0:Int)).length=pre.length:=by simp
   have:=q5.step h0 hj
   unfold toP at this
   rw[h0]at this
   obtain⟨_,e,e1,e2,e3,e4⟩:=(q1V hT).1 this
   exact⟨e,e1,e3,e4,e2⟩
  obtain⟨H20,c20,w,z1,z2,z3,z4,z5⟩:=q1R hM (a_0:=(a:Int)) (a_1:=c1) (a_3:=c3) (x0:= .nilSlice) (x1:= .nilSlice) (vp:=c11) (show lim<=H18.next by omega) hF18 u18 (by omega) hcs hvl (by omega) hp hst (pre.length+lp.length) 0 H18 .nilSlice [] (by omega) ⟨nR _,fun _ _=>rfl⟩ (Own.nil (nR _) 1) rfl (fun j x hj=>by simp at hj)
  have n20:=z2.next
  have gr20:Grow H H20:=⟨by have:=gr18.next;omega,fun i hi=>by rw[z2.old i (by have:=gr18.next;omega)];exact gr18.keep i hi⟩
  obtain⟨w1,w2⟩:=q1Y A.ok z5 z4 hp
  have hlen11:C.len c11=some pre.length:=by rw[q3.ints.len,q0m]
  have z3':OInts H20 H18.next c20 ([]++w.take pre.length++w.drop pre.length):=by rw[List.nil_append,List.take_append_drop];exact z3
  have l0:(w.take pre.length).length=pre.length:=by rw[List.length_take,Nat.min_eq_left (by omega)]
  have l1:(w.drop pre.length).length=lp.length:=by rw[List.length_drop];omega
  obtain⟨d2,t1,t2⟩:=k0u lim z3'
  obtain⟨d3,t3,t4⟩:=k0X (l1:=w.take pre.length) (l2:=w.drop pre.length) lim (by rw[List.take_append_drop];exact z3)
  have t1':Heap.subM lim H20 1 c20 0 (some (pre.length:Int)) (some (pre.length:Int))=some d2:=by
   unfold Heap.subM
   rw[z3.ints.len,oS,if_pos]
   ·rw[l0]at t1
    simpa using t1
   ·simp only[Option.getD_some]
    omega
  rw[l0]at t3
  obtain⟨m2,u2,e2⟩:=X0k (F:=fun i=>F i\/(H.next<=i/\i<H20.next)) t2 fun i h1 h2=> .inr ⟨by have:=gr18.next;omega,h2⟩
  obtain⟨m3,u3,e3⟩:=X0k (F:=fun i=>F i\/(H.next<=i/\i<H20.next)) t4 fun i h1 h2=> .inr ⟨by have:=gr18.next;omega,h2⟩
  have hF20: ∀i,(F i\/(H.next<=i/\i<H20.next))->i<H20.next:=fun i hi=>hi.elim (fun h=>by have:=A.hF i h;have:=gr20.next;omega) (·.2)
  have fin: ∀(k0 k1:Bool) (v0 v1:List Int) (e:Int),ycall MU 77 [.st [uIs m2 (w.take pre.length),uIs m3 (w.drop pre.length)]]=some (.tup [.st [uIs k0 v0,uIs k1 v1],uI e])->WordSpec a l es xs v0 v1 e->
    ∃(d0 d1:C) (e:Int) (k0 k1:Bool) (v0 v1:List Int) (H':Heap) (F':Nat->Prop),f37 (MH lim) (a:Int) c1 c2 c3 H=some (.tuple [.agg [d0,d1], .c (.int .i64 e)],H')/\FrX none H F H' F'/\UC H' F' (uIs k0 v0) [d0]/\UC H' F' (uIs k1 v1) [d1]/\WordSpec a l es xs v0 v1 e:=by
   intro k0 k1 v0 v1 e hy hsp
   have hmd:md 77=[.va, .va]:=by kernel_rfl
   obtain⟨ws,H21,F21,x1,x2,x3⟩:=callT hM (f:=77) (vs:=[.agg [d2,d3]]) hy hmd (by have:=gr20.next;omega) hF20 ⟨_,[],rfl,z0h u2 u3,rfl⟩
   obtain⟨d0,d1,rfl,y1,y2⟩:=k1F x3
   have q77:f77 (MH lim) d2 d3 H20=some (.tuple [.agg [d0,d1], .c (.int .i64 e)],H21):=x1
   have hr:FrX none H F H20 (fun i=>F i\/(H.next<=i/\i<H20.next)):=⟨gr20.next,fun i hi _=>gr20.keep i hi,fun i h=> .inl h,fun i h=>h.imp id (·.1),hF20⟩
   refine⟨d0,d1,e,k0,k1,v0,v1,H21,F21, ?_,hr.trans x2,y1,y2,hsp⟩
   have hlen19:C.len c19=some (pre.length+lp.length):=by have:=hcs.1;rwa [q0m,List.length_append]at this
   rw[show((0:Nat):Int)=0 from rfl]at z1
   rw[w1M]
   simp only[p1,oS,ext_tuple,List.getElem?_cons_zero,List.getElem?_cons_succ,asC_c,st7,l7,q1,asB_bool,Bool.not_true,bF,iF,q54,hlen19]
   rw[z1,J0j]
   simp only[Int.lt_irrefl,dF,bF,iF,hlen11,oS,t1',t3,q77,ext_tuple,List.getElem?_cons_zero,List.getElem?_cons_succ,asA_agg,headC_cons,List.drop_succ_cons,List.drop_zero,List.length_nil,iT,asC_c,asI_int]
  rcases K1e K1l e2 e3 (by omega) (by omega) w1 with⟨y1,y2⟩ |⟨y1,b',v0,v1,y2,y3,y4⟩
  ·refine fin _ _ _ _ _ y2 (.inr ⟨huse, .inl ⟨rfl,rfl,rfl, ?_⟩⟩)
   rw[l0,l1]at y1
   by_cases hc:20<a\/2<xs.length
   ·exact hc
   ·exfalso
    rw[hsl]at gc
    have hcx:cnt (setsU a xs) g xs.length<=1:=by
     by_cases h0:xs.length=0
     ·rw[h0];simp[cnt]
     ·obtain⟨k,hk⟩: ∃k,xs.length=k+1:=⟨xs.length - 1,by omega⟩
      have hg:=(mayW_true.1 gm).resolve_left (by omega)
      have:=j1a (inB_getD.2 hg) k
      rw[hk];omega
    have:=Nat.mul_le_mul_left a hcx
    omega
  ·refine fin _ _ _ _ _ y2 (.inr ⟨huse, .inr ⟨rfl,y3.pos, ?_,y3.letters (by omega) w1, ?_⟩⟩)
   ·have:=y3.l0;have:=y3.l1;omega
   ·rw[k1T y3]
    refine k1K hp w2 (hfr2 _ q5.start) fun k hk=> ?_
    obtain⟨t,t1,t2⟩:=q5.meets k (by rw[hsl];exact hk)
    exact⟨t,t1,((q1W hk).1 t2).2⟩
 ·refine⟨.nilSlice, .nilSlice,25,false,false,[],[],H9,F, ?_,⟨(gr7.trans q2).next,fun i hi _=>(gr7.trans q2).keep i hi,fun _ h=>h,fun _ h=> .inl h,fun i hi=>by have:=A.hF i hi;have:=(gr7.trans q2).next;omega⟩, .inl ⟨rfl,rfl,rfl⟩, .inl ⟨rfl,rfl,rfl⟩, .inl ⟨rfl,rfl,rfl,J1r hT hfr1 (fun v hv=>mayW_true.2 (by rw[hsl];exact hv)) q3⟩⟩
  rw[w1M]
  simp only[p1,oS,ext_tuple,List.getElem?_cons_zero,List.getElem?_cons_succ,asC_c,st7,l7,q1,asB_bool,Bool.not_false,iT]
end
theorem Q1O{M:YM}{b b':Bool}:y31 M (uIs b []) (uIs b' [])=some (.val (.c (.bool true))):=by
 rw[Z1g]
 simp only[len_uIs,oS,List.length_nil,show(((0:Nat):Int)=((0:Nat):Int))from rfl,dY,Bool.not_true,bF,iF]
 rw[z1Q]
 simp only[len_uIs,oS,List.length_nil,show¬((0:Int)<((0:Nat):Int)) by omega,dF,bF,iF]
theorem K0n{M:YM}{b b':Bool}:y13 M (uIs b []) (uIs b' []) (uIs false []) (uIs false [])=some (.val (.c (.bool true))):=by
 rw[Z1b]
 simp only[Q1O,oS,toU_val,asB_c,iT]
theorem k1g{M:YM}{P:List Bool}(hn:P.length<=1000000): ∀(d i:Nat),i+d=P.length->y14_1 M (setU P) (i:Int)=some (.val (.c (.bool (!(P.drop i).any id)))):=by
 have hk:U.len (setU P)=some P.length:=by simp[setU,U.len,U.asL]
 intro d
 induction d with
 |zero=>
  intro i hi
  rw[K0X,dL (by omega)]
  simp only[hk,oS,show¬((i:Int)<((P.length:Nat):Int)) by omega,dF,bF,iF]
  rfl
 |succ d ih=>
  intro i hi
  have hlt:i<P.length:=by omega
  have hx:U.idx 1 (setU P) (i:Int)=some (.c (.bool P[i])):=w0X (q0a hlt)
  rw[K0X,List.drop_eq_getElem_cons hlt]
  simp only[hk,oS,show((i:Int)<((P.length:Nat):Int)) by omega,dY,iT,hx,cell_c,asB_c,q0b (show i<=1000000000 by omega),ih (i+1) (by omega),List.any_cons,id_eq]
  cases P[i]<;>simp
theorem Z1X{a:Nat}{b1 b2 b3:Bool}{l:List Int}{es:List E4}{xs:List (Bool×List Int)}(e1:aErr (a:Int) l es xs=0)(e2:l.length<=1000000)(e3: ∀x∈xs,x.2.length<=1000000): ∃b:Bool,y14 MU (a:Int) (uIs b1 l) (uEs b2 es) (uLs b3 xs)=some (.val (.c (.bool b)))/\(b=true↔ ∀v,¬inB (usefulL a l es xs) v):=by
 have ha:a<=300:=by
  have:=(aErr_zero.1 e1).1
  simp only[btw,dE]at this;omega
 have:=k1g (M:=MU) (P:=usefulL a l es xs) (by rw[Q0E];omega) (usefulL a l es xs).length 0 (by omega)
 rw[List.drop_zero]at this
 refine⟨!(usefulL a l es xs).any id, ?_, ?_⟩
 ·rw[Z1c]
  simp only[W1l e1 e2 e3,oS,toU_val]
  exact this
 ·rw[bN,<-Bool.not_eq_true,List.any_eq_true]
  constructor
  ·intro h v hv;exact h ⟨true,List.mem_of_getElem? hv,rfl⟩
  ·rintro h ⟨x,hx,hx'⟩
   obtain⟨v,hv⟩:=List.mem_iff_getElem?.1 hx
   exact h v (by unfold inB;rw[hv];exact congrArg some hx')
theorem k1h:y8 MU=some (.val (.c (.bool true))):=by
 unfold y8 yrunM
 rw[w0d]
 kernel_rfl
theorem Q1P{a:Int}{l:List Int}{es:List E4}{xs:List (Bool×List Int)}(h:few a l es xs=true):es.length<=60/\l.length<=40/\xs.length<=12/\ ∀x∈xs,x.2.length<=40:=by
 unfold few at h
 simp only[bA,dE,List.all_eq_true]at h
 exact⟨h.1.1.1.2,h.1.1.2,h.1.2,h.2⟩
theorem q1p{a:Nat}{l:List Int}{es:List E4}{xs:List (Bool×List Int)}:usefulL a l es (cp xs)=usefulL a l es xs:=by
 have:setsU a (cp xs)=setsU a xs:=by unfold setsU cp;rw[List.map_map];rfl
 unfold usefulL
 rw[this,Z0t]
theorem Z1Y{l:List Int}{es:List E4}{xs:List (Bool×List Int)}:auL l es (cp xs)=auL l es xs:=by
 have h: ∀k,((cp xs).getD k (false,[])).2=(xs.getD k (false,[])).2:=fun k=>by
  unfold cp
  rw[lG,lG,List.getElem?_map]
  cases xs[k]? <;>rfl
 unfold auL
 rw[Z0t]
 simp only[h]
theorem K0o{a:Nat}{l:List Int}{es:List E4}{xs:List (Bool×List Int)}{v0 v1:List Int}{e:Int}(h:WordSpec a l es (cp xs) v0 v1 e):WordSpec a l es xs v0 v1 e:=by
 unfold WordSpec at h⊢
 rw[q1p,Z1Y,Z0t]at h
 exact h
section
variable{lim:Nat}{H:Heap}{F:Nat->Prop}{a:Int}{b1 b2 b3:Bool}{l:List Int}{es:List E4}{xs:List (Bool×List Int)}{c1 c2 c3:C}
variable(hl:lim<=H.next)(hF: ∀i,F i->i<H.next)(u1:UC H F (uIs b1 l) [c1])(u2:UC H F (uEs b2 es) [c2])(u3:UC H F (uLs b3 xs) [c3])(hll:l.length<=1000000)(he:es.length<=1000000)(hx:xs.length<=1000000)(hxs: ∀x∈xs,x.2.length<=1000000)
include hl hF u1 u2 u3 hll he hx hxs
theorem w0u:UVs H F [.st [uI a,uIs b1 l,uEs b2 es,uLs b3 xs]] [.agg [.int .i64 a,c1,c2,c3]]:=
 ⟨_,[],rfl,⟨_,rfl,_,_,rfl,rfl,⟨rfl,rfl⟩,_,_,rfl,rfl,u1,_,_,rfl,rfl,u2,_,_,rfl,rfl,u3,rfl⟩,rfl⟩
theorem Q1Q: ∃(d0 d1:C) (e:Int) (k0 k1:Bool) (v0 v1:List Int) (H':Heap) (F':Nat->Prop),f10 (MH lim) a c1 c2 c3 H=some (.tuple [.agg [d0,d1], .c (.int .i64 e)],H')/\FrX none H F H' F'/\UC H' F' (uIs k0 v0) [d0]/\UC H' F' (uIs k1 v1) [d1]/\
  ((aErr a l es xs≠0/\e=aErr a l es xs/\k0=false/\k1=false/\v0=[]/\v1=[])\/(aErr a l es xs=0/\WordSpec a.toNat l es xs v0 v1 e)):=by
 have hM:CallsY lim MU.ext:=J0w lim
 obtain⟨v,H1,F1,m1,m2,m3⟩:=z0g hM (f:=36) (us:=[.st [uI a,uIs b1 l,uEs b2 es,uLs b3 xs]]) (K1B (M:=MU) (a:=a) (b1:=b1) (b2:=b2) (b3:=b3) hll he hx hxs) rfl hl hF (w0u hl hF u1 u2 u3 hll he hx hxs)
 have:=m3.int
 subst this
 have q36:f36 (MH lim) a c1 c2 c3 H=some (.c (.int .i64 (aErr a l es xs)),H1):=m1
 by_cases h0:aErr a l es xs=0
 ·obtain⟨q1,q2,q3,q4,q5,q6⟩:=aErr_zero.1 h0
  simp only[btw,dE]at q1
  obtain⟨n,rfl⟩:=iZ q1.1
  have hle:=m2.le0 hF
  obtain⟨d0,d1,e,k0,k1,v0,v1,H',F',z1,z2,z3,z4,z5⟩:=J1t (lim:=lim) (H:=H1) (F:=F1) (a:=n) (b1:=b1) (b2:=b2) (b3:=b3) (l:=l) (es:=es) (xs:=xs)
   ⟨nT hl m2.next,m2.lt,by omega,q2,q3,q4,u1.mono hle,u2.mono hle,u3.mono hle,⟨hll,(sErr_zero.1 q5).1⟩,fun x hx'=>⟨hxs x hx',(sErr_zero.1 (q6 x hx')).1⟩⟩
  refine⟨d0,d1,e,k0,k1,v0,v1,H',F', ?_,m2.trans z2,z3,z4, .inr ⟨h0,z5⟩⟩
  rw[w1L]
  simp only[q36,oS,asC_c,asI_int,h0,dY,Bool.not_true,bF,iF,z1,ext_tuple,List.getElem?_cons_zero,List.getElem?_cons_succ,asA_agg,headC_cons,List.drop_succ_cons,List.drop_zero,List.length_nil,iT]
 ·refine⟨.nilSlice, .nilSlice,aErr a l es xs,false,false,[],[],H1,F1, ?_,m2, .inl ⟨rfl,rfl,rfl⟩, .inl ⟨rfl,rfl,rfl⟩, .inl ⟨h0,rfl,rfl,rfl,rfl,rfl⟩⟩
  rw[w1L]
  simp only[q36,oS,asC_c,asI_int,h0,dF,Bool.not_false,iT]
end
section
variable{H:Heap}{a:Int}{b1 b2 b3:Bool}{l:List Int}{es:List E4}{xs:List (Bool×List Int)}{c1 c2 c3:C}
variable(u1:UC H (fun i=>i<H.next) (uIs b1 l) [c1])(u2:UC H (fun i=>i<H.next) (uEs b2 es) [c2])(u3:UC H (fun i=>i<H.next) (uLs b3 xs) [c3])
include u1 u2 u3
theorem Z1Z: ∃H',f3 (MH H.next) a c1 c2 c3 H=some (.c (.bool true),H'):=by
 have hM:CallsY H.next MU.ext:=J0w H.next
 obtain⟨v8,H1,F1,m1,m2,m3⟩:=z0g hM (f:=8) (us:=[]) (vs:=[]) k1h rfl (nR _) (fun _ h=>h) rfl
 have:=m3.bool
 subst this
 have q8:f8 (MH H.next) H=some (.c (.bool true),H1):=m1
 have hl1:H.next<=H1.next:=m2.next
 have e1:=m2.le0 (fun _ h=>h)
 have u1':=u1.mono e1;have u2':=u2.mono e1;have u3':=u3.mono e1
 have hv1:UVs H1 F1 [.st [uI a,uIs b1 l,uEs b2 es,uLs b3 xs]] [.agg [.int .i64 a,c1,c2,c3]]:=⟨_,[],rfl,⟨_,rfl,_,_,rfl,rfl,⟨rfl,rfl⟩,_,_,rfl,rfl,u1',_,_,rfl,rfl,u2',_,_,rfl,rfl,u3',rfl⟩,rfl⟩
 obtain⟨v9,H2,F2,n1,n2,n3⟩:=z0g hM (f:=9) (us:=[.st [uI a,uIs b1 l,uEs b2 es,uLs b3 xs]]) (W1m (M:=MU) (a:=a) (b1:=b1) (b2:=b2) (b3:=b3) (l:=l) (es:=es) (xs:=xs)) rfl hl1 m2.lt hv1
 have:=n3.bool
 subst this
 have q9:f9 (MH H.next) a c1 c2 c3 H1=some (.c (.bool (few a l es xs)),H2):=n1
 cases hfew:few a l es xs with
 |false=>
  refine⟨H2, ?_⟩
  rw[q1k]
  simp only[q8,oS,asC_c,asB_bool,Bool.not_true,bF,iF,q9,hfew,Bool.not_false,iT]
 |true=>
  obtain⟨f1,f2,f3',f4⟩:=Q1P hfew
  have hxs: ∀x∈xs,x.2.length<=1000000:=fun x hx=>by have:=f4 x hx;omega
  have hxc: ∀x∈cp xs,x.2.length<=1000000:=fun x hx=>by
   obtain⟨y,hy,rfl⟩:=List.mem_map.1 hx
   exact hxs y hy
  have hl2:H.next<=H2.next:=nT hl1 n2.next
  have e2:=n2.le0 m2.lt
  have u1b:=u1'.mono e2;have u2b:=u2'.mono e2;have u3b:=u3'.mono e2
  obtain⟨bc,h11⟩:=Z1J (M:=MU) (a:=a) (b1:=b1) (b2:=b2) (b3:=b3) (l:=l) (es:=es) (xs:=xs) (by omega) (by omega) (by omega) hxs
  obtain⟨v11,H3,F3,o1,o2,o3⟩:=z0g hM (f:=11) (us:=[.st [uI a,uIs b1 l,uEs b2 es,uLs b3 xs]]) h11 rfl hl2 n2.lt (w0u (a:=a) hl2 n2.lt u1b u2b u3b (by omega) (by omega) (by omega) hxs)
  obtain⟨a1,a2,a3,rfl,k1,k2,k3⟩:=Z0b o3
  have q11:f11 (MH H.next) a c1 c2 c3 H2=some (.agg [.int .i64 a,a1,a2,a3],H3):=o1
  have hl3:H.next<=H3.next:=nT hl2 o2.next
  have e3:=o2.le0 n2.lt
  have u1c:=u1b.mono e3;have u2c:=u2b.mono e3;have u3c:=u3b.mono e3
  obtain⟨d0,d1,e,g0,g1,v0,v1,H4,F4,z1,z2,z3,z4,z5⟩:=Q1Q (lim:=H.next) (a:=a) hl3 o2.lt k1 k2 k3 (by omega) (by omega) (by rw[Z0t];omega) hxc
  rw[J1m]at z5
  have hl4:H.next<=H4.next:=nT hl3 z2.next
  have e4:=z2.le0 o2.lt
  have u1d:=u1c.mono e4;have u2d:=u2c.mono e4;have u3d:=u3c.mono e4
  obtain⟨v12,H5,F5,p1,p2,p3⟩:=z0g hM (f:=12) (us:=[.st [uI a,uIs b1 l,uEs b2 es,uLs b3 xs]]) (K1z (M:=MU) (a:=a) (b1:=b1) (b2:=b2) (b3:=b3) (l:=l) (es:=es) (xs:=xs) (by omega) (by omega) (by omega) hxs) rfl hl4 z2.lt (w0u (a:=a) hl4 z2.lt u1d u2d u3d (by omega) (by omega) (by omega) hxs)
  have:=p3.int
  subst this
  have q12:f12 (MH H.next) a c1 c2 c3 H4=some (.c (.int .i64 (aErr a l es xs)),H5):=p1
  have hl5:H.next<=H5.next:=nT hl4 p2.next
  have e5:=p2.le0 z2.lt
  have u1e:=u1d.mono e5;have u2e:=u2d.mono e5;have u3e:=u3d.mono e5
  have w0:=z3.mono e5
  have w1:=z4.mono e5
  have same: ∀(Hx:Heap) (Fx:Nat->Prop),H.next<=Hx.next->(∀i,Fx i->i<Hx.next)->UC Hx Fx (uIs g0 v0) [d0]->UC Hx Fx (uIs g1 v1) [d1]->v0=[]->v1=[]->g0=false->g1=false-> ∃Hy,f13 (MH H.next) d0 d1 .nilSlice .nilSlice Hx=some (.c (.bool true),Hy):=by
   intro Hx Fx hl hF s0 s1 e0 e1 e2 e3
   rw[e0,e2]at s0
   rw[e1,e3]at s1
   have nil:UC Hx Fx (uIs false []) [.nilSlice]:= .inl ⟨rfl,rfl,rfl⟩
   obtain⟨v13,Hy,Fy,t1,t2,t3⟩:=z0g hM (f:=13) (us:=[.st [uIs false [],uIs false []], .st [uIs false [],uIs false []]]) (vs:=[.agg [d0,d1], .agg [.nilSlice, .nilSlice]]) (K0n (M:=MU)) rfl hl hF (q1S (z0h s0 s1) (z0h nil nil))
   have:=t3.bool
   subst this
   exact⟨Hy,t1⟩
  rcases z5 with⟨r0,r1,r2,r3,r4,r5⟩ |⟨r0,r1⟩
  ·obtain⟨Hy,q13⟩:=same H5 F5 hl5 p2.lt w0 w1 r4 r5 r2 r3
   refine⟨Hy, ?_⟩
   subst r1
   rw[q1k]
   simp only[q8,oS,asC_c,asB_bool,Bool.not_true,bF,iF,q9,hfew,q11,asA_agg,headC_cons,asI_int,List.drop_succ_cons,List.drop_zero,List.length_nil,iT,z1,ext_tuple,List.getElem?_cons_zero,List.getElem?_cons_succ,q12,r0,dF,Bool.not_false,dY,q13]
  ·obtain⟨s1,s2,s3,s4,s5,s6⟩:=aErr_zero.1 r0
   simp only[btw,dE]at s1
   obtain⟨n,rfl⟩:=iZ s1.1
   rw[iN]at r1
   have r1:=K0o r1
   obtain⟨b14,y1,y2⟩:=Z1X (b1:=b1) (b2:=b2) (b3:=b3) r0 (by omega) hxs
   obtain⟨v14,H6,F6,t1,t2,t3⟩:=z0g hM (f:=14) (us:=[.st [uI (n:Int),uIs b1 l,uEs b2 es,uLs b3 xs]]) y1 rfl hl5 p2.lt (w0u (a:=(n:Int)) hl5 p2.lt u1e u2e u3e (by omega) (by omega) (by omega) hxs)
   have:=t3.bool
   subst this
   have q14:f14 (MH H.next) (n:Int) c1 c2 c3 H5=some (.c (.bool b14),H6):=t1
   have hl6:H.next<=H6.next:=nT hl5 t2.next
   have e6:=t2.le0 p2.lt
   have w0':=w0.mono e6
   have w1':=w1.mono e6
   rcases r1 with⟨x1,x2,x3,x4⟩ |⟨x0,⟨x1,x2,x3,x4⟩ |⟨x1,x2,x3,x4,x5⟩⟩
   ·have hb:b14=true:=y2.2 x4
    subst hb x1 x2 x3
    obtain⟨Hy,q13⟩: ∃Hy,f13 (MH H.next) d0 d1 .nilSlice .nilSlice H6=some (.c (.bool true),Hy):=by
     obtain⟨v13,Hy,Fy,t1,t2',t3⟩:=z0g hM (f:=13) (us:=[.st [uIs g0 [],uIs g1 []], .st [uIs false [],uIs false []]]) (vs:=[.agg [d0,d1], .agg [.nilSlice, .nilSlice]]) (r:= .val (.c (.bool true))) (by
      show y13 MU (uIs g0 []) (uIs g1 []) (uIs false []) (uIs false [])=_
      exact K0n) rfl hl6 t2.lt (q1S (z0h w0' w1') (z0h (.inl ⟨rfl,rfl,rfl⟩) (.inl ⟨rfl,rfl,rfl⟩)))
     have:=t3.bool
     subst this
     exact⟨Hy,t1⟩
    refine⟨Hy, ?_⟩
    rw[q1k]
    simp only[q8,oS,asC_c,asB_bool,Bool.not_true,bF,iF,q9,hfew,q11,asA_agg,headC_cons,asI_int,List.drop_succ_cons,List.drop_zero,List.length_nil,iT,z1,ext_tuple,List.getElem?_cons_zero,List.getElem?_cons_succ,q12,r0,dY,q14,q13]
   ·have hb:b14=false:=by
     cases b14 with
     |false=>rfl
     |true=>obtain⟨v,hv⟩:=x0;exact absurd hv (y2.1 rfl v)
    subst hb x1 x2 x3
    obtain⟨Hy,q13⟩: ∃Hy,f13 (MH H.next) d0 d1 .nilSlice .nilSlice H6=some (.c (.bool true),Hy):=by
     obtain⟨v13,Hy,Fy,t1,t2',t3⟩:=z0g hM (f:=13) (us:=[.st [uIs g0 [],uIs g1 []], .st [uIs false [],uIs false []]]) (vs:=[.agg [d0,d1], .agg [.nilSlice, .nilSlice]]) (r:= .val (.c (.bool true))) (by
      show y13 MU (uIs g0 []) (uIs g1 []) (uIs false []) (uIs false [])=_
      exact K0n) rfl hl6 t2.lt (q1S (z0h w0' w1') (z0h (.inl ⟨rfl,rfl,rfl⟩) (.inl ⟨rfl,rfl,rfl⟩)))
     have:=t3.bool
     subst this
     exact⟨Hy,t1⟩
    have hk3:C.len c3=some xs.length:=k1B u3
    refine⟨Hy, ?_⟩
    rw[q1k]
    by_cases h20:20<n
    ·simp only[q8,oS,asC_c,asB_bool,Bool.not_true,bF,iF,q9,hfew,q11,asA_agg,headC_cons,asI_int,List.drop_succ_cons,List.drop_zero,List.length_nil,iT,z1,ext_tuple,List.getElem?_cons_zero,List.getElem?_cons_succ,q12,r0,dY,q14,show((20:Int)<(n:Int)) by omega,Bool.true_eq_false,q13]
    ·have h2:2<xs.length:=x4.resolve_left h20
     simp only[q8,oS,asC_c,asB_bool,Bool.not_true,bF,iF,q9,hfew,q11,asA_agg,headC_cons,asI_int,List.drop_succ_cons,List.drop_zero,List.length_nil,iT,z1,ext_tuple,List.getElem?_cons_zero,List.getElem?_cons_succ,q12,r0,dY,dF,q14,show¬((20:Int)<(n:Int)) by omega,hk3,show((2:Int)<((xs.length:Nat):Int)) by omega,q13]
   ·have hb:b14=false:=by
     cases b14 with
     |false=>rfl
     |true=>obtain⟨v,hv⟩:=x0;exact absurd hv (y2.1 rfl v)
    subst hb x1
    have hw:wErr v0 v1=0:=by unfold wErr;rw[if_neg (by omega),if_neg (by omega),if_pos x4]
    obtain⟨v15,H7,F7,t5,t6,t7⟩:=z0g hM (f:=15) (us:=[.st [uIs g0 v0,uIs g1 v1]]) (vs:=[.agg [d0,d1]]) (Z1L (M:=MU) (b1:=g0) (b2:=g1) (l:=v0) (r:=v1) (by omega)) rfl hl6 t2.lt ⟨_,[],rfl,z0h w0' w1',rfl⟩
    have:=t7.int
    subst this
    rw[hw]at t5
    have q15:f15 (MH H.next) d0 d1 H6=some (.c (.int .i64 0),H7):=t5
    have hl7:H.next<=H7.next:=nT hl6 t6.next
    have e7:=t6.le0 t2.lt
    obtain⟨r,H8,q16,_,qr⟩:=J1b hM K1m (H:=H7) (F:=F7) (a:=n) (b1:=b1) (b2:=b2) (b3:=b3) (b4:=g0) (b5:=g1) (l:=l) (es:=es) (xs:=xs) (w0:=v0) (w1:=v1) (c1:=c1) (c2:=c2) (c3:=c3) (d0:=d0) (d1:=d1)
     ⟨hl7,t6.lt,by omega,s2,s3,s4,x2,x4,x3,(u1e.mono e6).mono e7,(u2e.mono e6).mono e7,(u3e.mono e6).mono e7,w0'.mono e7,w1'.mono e7,⟨by omega,(sErr_zero.1 s5).1⟩,fun x hx'=>⟨hxs x hx',(sErr_zero.1 (s6 x hx')).1⟩⟩
    have hr:r=true:=qr.2 x5
    subst hr
    have hk0:C.len d0=some v0.length:=X0i z3
    have hk1:C.len d1=some v1.length:=X0i z4
    have wl:IntKind.wrap .i64 ((v0.length:Int)+(v1.length:Int))=((v0.length+v1.length:Nat):Int):=by rw[q0g (by omega) (by omega)];simp
    refine⟨H8, ?_⟩
    rw[q1k]
    simp only[q8,oS,asC_c,asB_bool,Bool.not_true,bF,iF,q9,hfew,q11,asA_agg,headC_cons,asI_int,List.drop_succ_cons,List.drop_zero,List.length_nil,iT,z1,ext_tuple,List.getElem?_cons_zero,List.getElem?_cons_succ,q12,r0,dY,q14,show¬((0:Int)=2) by omega,dF,hk0,hk1,wl,show(((v0.length+v1.length:Nat):Int)<=60) by omega,q15,q16]
end
theorem words_law(us:List U)(h:TyPs [.struct [.int .i64, .sl [.int .i64], .sl [.int .i64, .int .i64, .int .i64, .int .i64], .sl [.sl [.int .i64]]]] us){vs:List V}{H:Heap}(hv:UVs H (fun i=>i<H.next) us vs): ∃H',Vm.run (awExt 8) (progOf 8 prog true) H.next 3 0 (vs.map .val) H=some (.c (.bool true),H'):=by
 obtain⟨u1,_,rfl,h1,rfl⟩:=h
 obtain⟨a,b1,l,b2,es,b3,xs,rfl⟩:=Q1s h1
 obtain⟨v,_,rfl,g1,rfl⟩:=hv
 obtain⟨c1,c2,c3,rfl,k1,k2,k3⟩:=Z0b g1
 exact Z1Z (a:=a) k1 k2 k3
end Go.Proofs.Ytglkhoamnmiolaa.R
