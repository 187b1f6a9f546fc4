/- - -/
import Derived.Test.YtglkhoamnmiolaaTd
set_option linter.all false
namespace Go.Proofs.Ytglkhoamnmiolaa.R
open Go Go.Proofs.Ytglkhoamnmiolaa.Vm
theorem q1f{n:Int}(h0:0<=n)(h1:n<18446744073709551616):IntKind.wrap .u64 n=n:=IntWalk.u64_in n ⟨h0,by omega⟩
theorem Z1r{n:Nat}(h:n<4294967296):shI .shr .u64 (n:Int) 32=0:=by
 unfold shI
 show(n:Int).fdiv (2 ^ (min (32:Int).toNat 64))=0
 rw[show min (32:Int).toNat 64=32 from rfl,Int.fdiv_eq_ediv_of_nonneg _ (by decide)]
 exact Int.ediv_eq_zero_of_lt (by omega) (by omega)
theorem Z1s{n:Nat}(h:n<4294967296):bitI .and .u64 (n:Int) 4294967295=(n:Int):=by
 have h1:BitVec.ofInt 64 (n:Int)=BitVec.ofNat 64 n:=by simp
 unfold bitI
 show IntKind.wrap .u64 (((BitVec.ofInt 64 (n:Int))&&& (BitVec.ofNat 64 4294967295)).toNat:Int)=_
 rw[h1,BitVec.toNat_and,BitVec.toNat_ofNat,BitVec.toNat_ofNat,Nat.mod_eq_of_lt (show n<2 ^ 64 by omega),Nat.mod_eq_of_lt (show 4294967295<2 ^ 64 by omega),
  show 4294967295=2 ^ 32 - 1 from rfl,Nat.and_two_pow_sub_one_eq_mod,Nat.mod_eq_of_lt (by omega)]
 exact q1f (by omega) (by omega)
theorem z1R{M:YM}{n:Nat}(h:n<=1000000):y110 M 1 (n:Int)=some (.tup [.c (.int .u64 0), .c (.int .u64 (n:Int))]):=by
 have s1:shI .shr .u64 1 32=0:=rfl
 have a1:bitI .and .u64 1 4294967295=1:=rfl
 have s0:shI .shr .u64 0 32=0:=rfl
 have a0:bitI .and .u64 0 4294967295=0:=rfl
 have w0:IntKind.wrap .u64 0=0:=rfl
 have wn:IntKind.wrap .u64 (n:Int)=(n:Int):=q1f (by omega) (by omega)
 rw[w1u,w1v]
 simp only[s1,a1,Z1r (show n<4294967296 by omega),Z1s (show n<4294967296 by omega),Int.zero_mul,Int.mul_zero,Int.one_mul,w0,wn,Int.add_zero,Int.zero_add,s0,a0]
 rfl
theorem Q0u: ∀(x y P S:List C),x.length=y.length->splice (P++y++S) P.length x=P++x++S
 | [],y,P,S,h=>by
  have:=List.eq_nil_of_length_eq_zero h.symm;subst this;rfl
 |c::x,[],P,S,h=>by simp at h
 |c::x,d::y,P,S,h=>by
  simp only[splice]
  have e:(P++d::y++S).set P.length c=(P++[c])++y++S:=by simp
  rw[e]
  have:=Q0u x y (P++[c]) S (by simpa using h)
  simp only[List.length_append,List.length_cons,List.length_nil]at this
  rw[this];simp
theorem z1S{M:Mach}{i N:Nat}{v:C}(hi:M.lim<=i)(hN:N<=1000000): ∀(F n:Nat) (cs:List C) (H:Heap),N<=n+F->1<=n->n<=N->H.get i=some (.cells 1 cs)->cs.length=N->cs.take n=List.replicate n v->
  ∃H',f95_3 M (.slice i 0 N) (n:Int) H=some (.c (.slice i 0 N),H')/\H'.next=H.next/\(∀j,j≠i->H'.get j=H.get j)/\H'.get i=some (.cells 1 (List.replicate N v)):=by
 intro F
 induction F with
 |zero=>
  intro n cs H hF h1 h2 hg hl ht
  obtain rfl:n=N:=by omega
  refine⟨H, ?_,rfl,fun _ _=>rfl, ?_⟩
  ·rw[w0j];simp
  ·rw[hg,<-ht,List.take_of_length_le (by omega)]
 |succ F ih=>
  intro n cs H hF h1 h2 hg hl ht
  by_cases hn:n=N
  ·subst hn
   refine⟨H, ?_,rfl,fun _ _=>rfl, ?_⟩
   ·rw[w0j];simp
   ·rw[hg,<-ht,List.take_of_length_le (by omega)]
  ·have hbad:H.szBad i 1=false:=by simp[Heap.szBad,hg]
   have hnn: ¬(M.lim<=i/\H.szBad i 1=true):=by rw[hbad];simp
   have s1:Heap.sub M.lim H 1 (.slice i 0 N) (n:Int) none=some (.slice i n (N - n)):=by
    simp only[Heap.sub,hbad,bF,and_false,iF,Option.getD_none]
    rw[if_pos (by omega)]
    simp
   have s2:Heap.sub M.lim H 1 (.slice i 0 N) 0 (some (n:Int))=some (.slice i 0 n):=by
    simp only[Heap.sub,hbad,bF,and_false,iF,Option.getD_some]
    rw[if_pos (by omega)]
    simp
   have s3:Heap.cellsOf H 1 (.slice i 0 n)=some (List.replicate n v):=by
    simp only[Heap.cellsOf,Heap.ldN,hg]
    rw[if_pos (by omega)]
    simp[ht]
   let m:=Nat.min n (N - n)
   have hm:m=Nat.min n (N - n):=rfl
   have hm1:m<=n:=Nat.min_le_left _ _
   have hm2:m<=N - n:=Nat.min_le_right _ _
   have hm3:1<=m:=by rw[hm];exact Nat.le_min.2 ⟨h1,by omega⟩
   have s4:Heap.copy M.lim H 1 (.slice i n (N - n)) (List.replicate n v) n=some (m,H.put i (.cells 1 (splice cs n (List.replicate m v)))):=by
    have htk:(List.replicate n v).take (Nat.min n (N - n)*1)=List.replicate m v:=by rw[Nat.mul_one,List.take_replicate,<-hm,Nat.min_eq_left hm1]
    simp only[Heap.copy,htk,Heap.st,hg]
    rw[if_pos ⟨hi,by simp;omega⟩]
    rfl
   have hsp:splice cs n (List.replicate m v)=List.replicate n v++List.replicate m v++cs.drop (n+m):=by
    have e:cs=List.replicate n v++(cs.drop n).take m++cs.drop (n+m):=by
     rw[<-ht,<-List.drop_drop,List.append_assoc,List.take_append_drop,List.take_append_drop]
    have:=Q0u (List.replicate m v) ((cs.drop n).take m) (List.replicate n v) (cs.drop (n+m)) (by simp;omega)
    rw[List.length_replicate,<-e]at this
    exact this
   obtain⟨H',b1,b2,b3,b4⟩:=ih (n+m) (splice cs n (List.replicate m v)) (H.put i (.cells 1 (splice cs n (List.replicate m v)))) (by omega) (by omega) (by omega) (put_same _ _ _) (by rw[q0K];exact hl) (by
    rw[hsp,List.replicate_append_replicate,List.take_append_of_le_length (by simp),List.take_of_length_le (by simp)])
   have hw:IntKind.wrap .i64 ((n:Int)+((m:Nat):Int))=((n+m:Nat):Int):=by rw[j0M (by omega) (by omega)];simp
   refine⟨H', ?_,b2,fun j hj=>by rw[b3 j hj,q0d hj],b4⟩
   rw[w0j]
   simp only[len_slice,oS,show((n:Int)<(N:Int)) by omega,dY,iT,s1,s2,s3,s4,hw]
   exact b1
section
variable{lim:Nat}{M:YM}(hM:CallsY lim M.ext)
include hM
theorem z1T{n:Nat}(h:n<=1000000){H:Heap}{F:Nat->Prop}(hl:lim<=H.next)(hF: ∀i,F i->i<H.next): ∃H',f110 (MH lim) 1 (n:Int) H=some (.tuple [.c (.int .u64 0), .c (.int .u64 (n:Int))],H')/\Grow H H':=by
 have hr:ycall M 110 [.c (.int .u64 1), .c (.int .u64 (n:Int))]=some (.tup [.c (.int .u64 0), .c (.int .u64 (n:Int))]):=z1R (M:=M) h
 obtain⟨v,H',F',k1,k2,k3,_,_,_,k4⟩:=(z0J (vext:=awExt 8) (yext:=M.ext) (prog:=progOf 8 prog true) (lim:=lim) w0m hM) 110 _ _ hr H F [.c (.int .u64 1), .c (.int .u64 (n:Int))] hl hF (Q1t ⟨rfl,rfl,rfl⟩ ⟨rfl,rfl,rfl⟩)
 refine⟨H', ?_,⟨k2,k3⟩⟩
 obtain⟨vs,rfl,v1,vs1,rfl,⟨_,u1⟩,v2,vs2,rfl,⟨_,u2⟩,e⟩:=k4
 cases e
 rw[u1.c_eq,u2.c_eq]at k1
 exact k1
omit hM in
theorem k0j(n:Nat)(x:C):(List.replicate n [x]).flatten=List.replicate n x:=by
 induction n with
 |zero=>rfl
 |succ n ih=>simp[List.replicate_succ]
theorem w1c{H:Heap}{c:C}{v:Int}{n:Nat}(h:Ints H c [v])(h1:n<=1000000)(hl:lim<=H.next): ∃j H',f95 (MH lim) c (n:Int) H=some (.c (.slice j 0 n),H')/\Grow H H'/\H.next<=j/\j<H'.next/\H'.get j=some (.cells 1 (List.replicate n (.int .i64 v))):=by
 have m3:IntKind.wrap .u64 (n:Int)=(n:Int):=q1f (by omega) (by omega)
 have m4:IntKind.wrap .i64 (n:Int)=(n:Int):=j0M (by omega) (by omega)
 have hlen:C.len c=some 1:=h.len
 have w1:IntKind.wrap .u64 ((1:Nat):Int)=1:=rfl
 obtain⟨H1,p1,p2⟩:=z1T hM h1 (H:=H) (F:=fun _=>False) hl (fun _ h=>h.elim)
 have hl1:lim<=H1.next:=nT hl p2.next
 have h':Ints H1 c [v]:=h.grow p2
 have f1:f95 (MH lim) c (n:Int) H=f95_2 (MH lim) c (n:Int) H1:=by
  rw[J1g,j1Y]
  simp only[show¬((n:Int)<0) by omega,dF,bF,iF,hlen,oS,w1,m3,p1,ext_tuple,List.getElem?_cons_zero,List.getElem?_cons_succ,asC_c,asI_int]
  simp only[show¬((0:Int)<0) by omega,show¬((9223372036854775807:Int)<(n:Int)) by omega,dF,iT,oS,bF,iF]
 rw[f1,j1Z]
 have hc2:(H1.alloc (.cells 1 (List.replicate n [C.int .i64 0]).flatten)).cellsOf 1 c=some [.int .i64 v]:=by
  have:=(h'.grow (.alloc H1 (.cells 1 (List.replicate n [C.int .i64 0]).flatten)))
  have h2:=Sl.cellsOf this
  simpa[rowI]using h2
 simp only[m4,show(0:Int)<=(n:Int)/\(n:Int)<=2 ^ 36 by omega,and_self,iT,iN,hc2,hlen,oS]
 have hget:(H1.alloc (.cells 1 (List.replicate n [C.int .i64 0]).flatten)).get H1.next=some (.cells 1 (List.replicate n (C.int .i64 0))):=by rw[alloc_new,k0j]
 have hcp:Heap.copy (MH lim).lim (H1.alloc (.cells 1 (List.replicate n [C.int .i64 0]).flatten)) 1 (.slice H1.next 0 n) [.int .i64 v] 1=some (Nat.min 1 n,(H1.alloc (.cells 1 (List.replicate n [C.int .i64 0]).flatten)).put H1.next (.cells 1 (splice (List.replicate n (C.int .i64 0)) 0 ([C.int .i64 v].take (Nat.min 1 n))))):=by
  simp only[Heap.copy,Heap.st,hget,Nat.mul_one]
  have hle:([C.int .i64 v].take (Nat.min 1 n)).length<=n:=by rw[List.length_take];exact nT (Nat.min_le_left _ _) (Nat.min_le_right _ _)
  rw[if_pos ⟨hl1,by rw[List.length_replicate,Nat.zero_add];exact hle⟩]
  rfl
 simp only[hcp,oS]
 have n1:=p2.next
 by_cases hk0:n=0
 ·subst hk0
  refine⟨_,_,by rw[w0j];rfl,p2.trans ⟨by simp,fun j hj=>by rw[q0d (by omega),q0f hj]⟩,n1,by simp,by rw[put_same];rfl⟩
 ·have hmin:Nat.min 1 n=1:=Nat.min_eq_left (by omega)
  obtain⟨k',rfl⟩: ∃k',n=k'+1:=⟨n - 1,by omega⟩
  obtain⟨H',b1,b2,b3,b4⟩:=z1S (M:=MH lim) (v:=C.int .i64 v) hl1 (N:=k'+1) (by omega) (k'+1) 1 (splice (List.replicate (k'+1) (C.int .i64 0)) 0 ([C.int .i64 v].take (Nat.min 1 (k'+1)))) ((H1.alloc (.cells 1 (List.replicate (k'+1) [C.int .i64 0]).flatten)).put H1.next (.cells 1 (splice (List.replicate (k'+1) (C.int .i64 0)) 0 ([C.int .i64 v].take (Nat.min 1 (k'+1)))))) (by omega) (by omega) (by omega) (put_same _ _ _) (by rw[q0K];simp) (by rw[hmin];simp[splice,List.replicate_succ])
  rw[hmin]at b1⊢
  exact⟨_,H',b1,p2.trans ⟨by rw[b2];simp,fun j hj=>by rw[b3 j (by omega),q0d (by omega),q0f hj]⟩,n1,by rw[b2];simp,b4⟩
omit hM in
theorem w0p(n:Nat)(x:Int):fc n (fun _=>x)=List.replicate n (.int .i64 x):=by
 induction n with
 |zero=>rfl
 |succ n ih=>
  rw[fc,List.range_succ,List.map_append,List.replicate_succ']
  exact congrArg (· ++[C.int .i64 x]) ih
theorem J1A{H:Heap}{F:Nat->Prop}{g:C}{bb:Bool}{rows:List (Bool×List Int)}{n:Nat}(hg:UC H F (uLs bb rows) [g])(hl:lim<=H.next)(hF: ∀i,F i->i<H.next)(hT:Table n rows)(hn:n<=1000000){σ:TS}(hσ:visAll (nxL rows) n (List.range n) TS.start=some σ):
  ∃j H',f93 (MH lim) g H=some (.c (.slice j 0 n),H')/\Grow H H'/\H.next<=j/\j<H'.next/\H'.get j=some (.cells 1 (fc n σ.of)):=by
 have hk:C.len g=some n:=by have:=UC.lenC hg;rw[<-hT.1];simpa using this
 have o1:Ints (H.alloc (.cells 1 [.int .i64 (-1)])) (.slice H.next 0 1) [-1]:=⟨fun r hr=>by obtain⟨x,_,rfl⟩:=List.mem_map.1 hr;rfl, .inr ⟨H.next,0,1,_,rfl,by simp,alloc_new _ _,by simp,rfl⟩⟩
 obtain⟨j,H5,q1,q2,q3,q4,q5⟩:=w1c hM o1 hn (by simp;omega)
 have hn5:=q2.next
 simp only[alloc_next]at hn5 q3
 have hg5:Grow H H5:=(Grow.alloc H _).trans q2
 generalize hH7:H5.alloc (.cells 1 (List.replicate n [C.int .i64 0]).flatten)=H7
 have g7:H7.get H5.next=some (.cells 1 (fc n fun _=>0)):=by rw[<-hH7,alloc_new,k0j,w0p]
 have k7: ∀i,i<H5.next->H7.get i=H5.get i:=fun i hi=>by rw[<-hH7,q0f hi]
 have x7:H7.next=H5.next+1:=by rw[<-hH7,alloc_next]
 generalize hH8:H7.alloc (.cells 1 (List.replicate n [C.int .i64 0]).flatten)=H8
 have g8:H8.get H7.next=some (.cells 1 (fc n fun _=>0)):=by rw[<-hH8,alloc_new,k0j,w0p]
 have k8: ∀i,i<H7.next->H8.get i=H7.get i:=fun i hi=>by rw[<-hH8,q0f hi]
 have x8:H8.next=H7.next+1:=by rw[<-hH8,alloc_next]
 generalize hH9:H8.alloc (.cells 7 [g, .slice H5.next 0 n, .slice H7.next 0 n, .slice j 0 n, .nilSlice, .int .i64 0, .int .i64 0])=H9
 have g9:H9.get H8.next=some (.cells 7 [g, .slice H5.next 0 n, .slice H7.next 0 n, .slice j 0 n, .nilSlice, .int .i64 0, .int .i64 0]):=by rw[<-hH9,alloc_new]
 have k9: ∀i,i<H8.next->H9.get i=H8.get i:=fun i hi=>by rw[<-hH9,q0f hi]
 have x9:H9.next=H8.next+1:=by rw[<-hH9,alloc_next]
 have f9:FrB H.next H H9:=⟨by omega,fun i hi=>by rw[k9 i (by omega),k8 i (by omega),k7 i (by omega)];exact hg5.keep i hi⟩
 have I:TIds (MH lim).lim H.next H8.next H5.next H7.next j:=⟨hl,⟨by omega,by omega,by omega,by omega⟩,⟨by omega,by omega,by omega,by omega,by omega,by omega⟩⟩
 have T:TSR H9 H.next H8.next H5.next H7.next j n g .nilSlice TS.start:=by
  refine⟨g9,⟨1, ?_⟩,⟨1, ?_⟩, ?_,Own.nil (by omega) 1,fun i o m e=>(by cases e),⟨by omega,by omega,by omega,by omega⟩⟩
  ·rw[k9 _ (by omega),k8 _ (by omega)];exact g7
  ·rw[k9 _ (by omega)];exact g8
  ·rw[k9 _ (by omega),k8 _ (by omega),k7 _ (by omega),q5,<-w0p];rfl
 have tb:TB n TS.start:=by
  refine⟨?_,nR _,nR _,fun x hx=>(by cases hx)⟩
  show 0+rest n TS.start<=n
  unfold rest
  have:=List.length_filter_le (fun w=>decide (TS.start.num w=0)) (List.range n)
  rw[List.length_range]at this
  omega
 obtain⟨H',sc',r1,r2,r3⟩:=w1p I hF hg hT hn (k:=n) n 0 TS.start σ H9 .nilSlice (by omega) (by rw[List.drop_zero];exact hσ) tb f9 T
 refine⟨j,H', ?_,⟨r2.next,r2.old⟩,by omega,r3.lt.2.2.2,r3.ho⟩
 rw[J1e]
 simp only[hk,oS,q1,asC_c,show(0:Int)<=(n:Int)/\(n:Int)<=2 ^ 36 by omega,and_self,iT,iN,hH7,hH8,hH9]
 exact r1
end
end Go.Proofs.Ytglkhoamnmiolaa.R
