/- - -/
import Derived.Test.YthjjbkiejkhjfaaPe
set_option linter.all false
namespace Go.Proofs.Ythjjbkiejkhjfaa.R
open Go Go.Proofs.Ythjjbkiejkhjfaa.Vm
theorem j1J(x y:Int):cmpN y x= - cmpN x y:=by
 unfold cmpN
 by_cases h:x<y<;>by_cases h2:y<x<;>simp[h,h2]<;>omega
theorem Z0r: ∀l r:List Int,cmpL r l= - cmpL l r
 | [],[]=>rfl
 | [],_::_=>rfl
 |_::_,[]=>rfl
 |a::l,b::r=>by
  have ih:=Z0r l r
  simp only[cmpL,j1J a b]
  by_cases h:cmpN a b=0
  ·simp[h,ih]
  ·simp[h,show¬(- cmpN a b=0) by omega]
theorem w0W: ∀(l u w:List Int),cmpL (l++u) (l++w)=cmpL u w
 | [],_,_=>rfl
 |a::l,u,w=>by simp[cmpL,z0n,w0W l u w]
theorem J0r: ∀{l r:List Int} (u w:List Int),l.length=r.length->cmpL l r≠0->cmpL (l++u) (r++w)=cmpL l r
 | [],[],_,_,_,h=>absurd rfl h
 | [],_::_,_,_,h,_=>by cases h
 |_::_,[],_,_,h,_=>by cases h
 |a::l,b::r,u,w,hl,h=>by
  simp only[cmpL,List.cons_append]at h⊢
  by_cases h0:cmpN a b=0
  ·rw[if_pos h0]at h⊢
   rw[if_pos h0]
   exact J0r u w (by simpa using hl) h
  ·simp[h0]
theorem cmpN_lt{x y:Int}:cmpN x y<0↔x<y:=by
 unfold cmpN
 by_cases h:x<y<;>by_cases h2:y<x<;>simp[h,h2]
theorem w1w(a b:Int):cmpL [a] [b]=cmpN a b:=by
 simp only[cmpL]
 split
 ·rename_i h;exact h.symm
 ·rfl
section
variable{N:Nat}{es:List E3}{cond ok:E3->Bool}
theorem j1K(P:E3->Bool)(es:List E3): ∀k,(sel P es k).Pairwise (· < ·)
 | 0=> .nil
 |k+1=>by
  unfold sel
  refine List.pairwise_append.2 ⟨j1K P es k,by split<;>simp,fun a ha b hb=> ?_⟩
  obtain⟨j,h1,h2,_⟩:=mem_sel.1 ha
  split at hb
  ·simp only[mC,List.not_mem_nil,or_false]at hb
   omega
  ·cases hb
def mvLt(x y:E3):Prop:=x.a<y.a\/(x.a=y.a/\x.t<y.t)
theorem j1L(hs:es.Pairwise lt3)(x:Int): ∀(d a:Nat),(mvF es x d a).Pairwise mvLt/\ ∀e∈mvF es x d a,(a:Int)<=e.a
 | 0,a=>⟨.nil,fun e h=>by cases h⟩
 |d+1,a=>by
  obtain⟨i1,i2⟩:=j1L hs x d (a+1)
  have hblock: ∀e∈(stepsL es x (a:Int)).map (edgeAt es),e.a=(a:Int):=fun e he=>by
   obtain⟨i,hi,rfl⟩:=List.mem_map.1 he
   obtain⟨j,e,rfl,h2,_,h4⟩:=mem_steps.1 hi
   rw[j0w h2];exact h4
  refine⟨?_,fun e he=> ?_⟩
  ·unfold mvF
   refine List.pairwise_append.2 ⟨?_,i1,fun p hp q hq=> .inl ?_⟩
   ·rw[List.pairwise_map]
    refine(j1K _ es _).imp_of_mem fun{i j} hi hj hij=> ?_
    obtain⟨i',e,rfl,h2,h3,h4⟩:=mem_steps.1 hi
    obtain⟨j',e',rfl,k2,k3,k4⟩:=mem_steps.1 hj
    rw[j0w h2,j0w k2]
    have:=k0o hs (show i'<j' by omega) h2 k2
    simp only[lt3]at this
    exact .inr ⟨by omega,by omega⟩
   ·have:=hblock p hp
    have:=i2 q hq
    omega
  ·unfold mvF at he
   rcases mA.1 he with he |he
   ·rw[hblock e he];exact Int.le_refl _
   ·have:=i2 e he;omega
theorem J1e(hs:es.Pairwise lt3)(x:Int):(mv es x).Pairwise mvLt:=(j1L hs x 12 0).1
structure LayS (m:Nat) (layer:List PE):Prop where
 asc:layer.Pairwise fun p q=>cmpL p.1 q.1<0
 len: ∀p∈layer,p.1.length=m
def rowOf(p:PE)(x:E3):PE:=(p.1++[x.a,x.t],x.t)
theorem w0s(p:PE): ∀(ms:List E3) (st:List Int×List PE),∃l,l.Sublist (ms.map (rowOf p))/\(ms.foldl (step3 ok p) st).2=st.2++l
 | [],st=>⟨[], .slnil,by simp⟩
 |x::ms,st=>by
  obtain⟨l,h1,h2⟩:=w0s p ms (step3 ok p st x)
  simp only[List.foldl_cons,List.map_cons,h2]
  unfold step3
  split
  ·exact⟨rowOf p x::l,h1.cons_cons _,by simp[rowOf]⟩
  ·exact⟨l,h1.cons _,rfl⟩
theorem w0t: ∀(layer:List PE) (st:List Int×List PE),∃l,l.Sublist (layer.flatMap fun p=>(mv es p.2).map (rowOf p))/\(nextL es ok layer st).2=st.2++l
 | [],st=>⟨[], .slnil,by simp[nextL]⟩
 |p::layer,st=>by
  obtain⟨l1,h1,h2⟩:=w0s (ok:=ok) p (mv es p.2) st
  obtain⟨l2,h3,h4⟩:=w0t layer ((mv es p.2).foldl (step3 ok p) st)
  unfold nextL at h4⊢
  rw[List.foldl_cons,h4,h2]
  exact⟨l1++l2,by rw[List.flatMap_cons];exact h1.append h3,by simp⟩
theorem Z0s(hs:es.Pairwise lt3){m:Nat}{layer:List PE}{ks:List Int}(h:LayS m layer):LayS (m+2) (nextL es ok layer (ks,[])).2:=by
 obtain⟨l,h1,h2⟩:=w0t (es:=es) (ok:=ok) layer (ks,[])
 rw[List.nil_append]at h2
 rw[h2]
 have hall:(layer.flatMap fun p=>(mv es p.2).map (rowOf p)).Pairwise fun p q=>cmpL p.1 q.1<0:=by
  rw[List.pairwise_flatMap]
  refine⟨fun p hp=> ?_,h.asc.imp_of_mem fun{p q} hp hq hpq=> ?_⟩
  ·rw[List.pairwise_map]
   refine(J1e hs p.2).imp fun{x y} hxy=> ?_
   show cmpL (p.1++[x.a,x.t]) (p.1++[y.a,y.t])<0
   rw[w0W]
   simp only[cmpL]
   rcases hxy with h |⟨h,h'⟩
   ·have:=cmpN_lt.2 h
    rw[if_neg (by omega)];exact this
   ·have:=cmpN_lt.2 h'
    rw[h,z0n,if_pos rfl,if_neg (by omega)];exact this
  ·intro a ha b hb
   obtain⟨x,_,rfl⟩:=List.mem_map.1 ha
   obtain⟨y,_,rfl⟩:=List.mem_map.1 hb
   show cmpL (p.1++_) (q.1++_)<0
   rw[J0r _ _ ((h.len p hp).trans (h.len q hq).symm) (by omega)]
   exact hpq
 refine⟨hall.sublist h1,fun p hp=> ?_⟩
 obtain⟨q,hq,hp2⟩:=List.mem_flatMap.1 (h1.subset hp)
 obtain⟨x,_,rfl⟩:=List.mem_map.1 hp2
 have:=h.len q hq
 simp[rowOf,this]
def hitL(es:List E3)(cond:E3->Bool):List PE->Option (List Int)
 | []=>none
 |p::r=>match(mv es p.2).find? cond with
  |some x=>some (p.1++[x.a])
  |none=>hitL es cond r
theorem w0X{p:PE}{b:List Int}: ∀(ms:List E3),(∀x∈ms,¬cmpL (p.1++[x.a]) b<0)->ms.foldl (bestStep cond p) (some b)=some b
 | [],_=>rfl
 |x::ms,h=>by
  have h1:bestStep cond p (some b) x=some b:=by
   unfold bestStep
   split
   ·simp[h x (by simp)]
   ·rfl
  rw[List.foldl_cons,h1]
  exact w0X ms fun y hy=>h y (by simp[hy])
theorem Q0D{p:PE}: ∀(ms:List E3),ms.Pairwise mvLt->ms.foldl (bestStep cond p) none=(ms.find? cond).map fun x=>p.1++[x.a]
 | [],_=>rfl
 |x::ms,h=>by
  rw[List.pairwise_cons]at h
  rw[List.foldl_cons,List.find?_cons]
  cases hc:cond x with
  |true=>
   have h1:bestStep cond p none x=some (p.1++[x.a]):=by simp[bestStep,hc]
   rw[h1]
   refine w0X ms fun y hy=> ?_
   rw[w0W,w1w,cmpN_lt]
   have:=h.1 y hy
   simp only[mvLt]at this
   omega
  |false=>
   have h1:bestStep cond p none x=none:=by simp[bestStep,hc]
   rw[h1]
   exact Q0D ms h.2
theorem Q0E{m:Nat}{b:List Int}: ∀(layer:List PE),(∀p∈layer,∀a:Int,¬cmpL (p.1++[a]) b<0)->bestL es cond layer (some b)=some b
 | [],_=>rfl
 |p::layer,h=>by
  unfold bestL
  rw[List.foldl_cons,w0X _ fun x _=>h p (by simp) x.a]
  exact Q0E (m:=m) layer fun q hq=>h q (by simp[hq])
theorem w0Y(hs:es.Pairwise lt3){m:Nat}: ∀{layer:List PE},LayS m layer->bestL es cond layer none=hitL es cond layer
 | [],_=>rfl
 |p::layer,h=>by
  have h':=h.asc
  rw[List.pairwise_cons]at h'
  unfold bestL hitL
  rw[List.foldl_cons,Q0D _ (J1e hs p.2)]
  cases hf:(mv es p.2).find? cond with
  |some x=>
   rw[Option.map_some]
   refine Q0E (m:=m) layer fun q hq a=> ?_
   have h1:=h'.1 q hq
   rw[Z0r,J0r _ _ ((h.len p (by simp)).trans (h.len q (by simp[hq])).symm) (by omega)]
   omega
  |none=>
   rw[Option.map_none]
   exact w0Y hs ⟨h'.2,fun q hq=>h.len q (by simp[hq])⟩
def hitC(es:List E3)(okc:E3->Bool)(s:Int):List PE->Option (List Int)
 | []=>none
 |p::r=>match(mv es p.2).find? (fun x=>okc x&&decide (x.t=s))with
  |some x=>some (p.1++[x.a,x.t])
  |none=>hitC es okc s r
theorem J0s{α:Type}{P:α->Bool}{l r:List α}:(l++r).find? P=(l.find? P).or (r.find? P):=List.find?_append
theorem W0Q{p:PE}{s:Int}: ∀(ms:List E3) (st:List Int×List PE),s∉st.1->st.2.find? (fun p=>decide (p.2=s))=none->
  match ms.find? (fun x=>ok x&&decide (x.t=s))with
  |some x=>(ms.foldl (step3 ok p) st).2.find? (fun p=>decide (p.2=s))=some (rowOf p x)
  |none=>s∉(ms.foldl (step3 ok p) st).1/\(ms.foldl (step3 ok p) st).2.find? (fun p=>decide (p.2=s))=none
 | [],st,h1,h2=>⟨h1,h2⟩
 |x::ms,st,h1,h2=>by
  rw[List.find?_cons,List.foldl_cons]
  cases hc:ok x&&decide (x.t=s)with
  |true=>
   simp only[bA,dE]at hc
   have hst:step3 ok p st x=(st.1++[x.t],st.2++[rowOf p x]):=by
    unfold step3
    rw[if_pos]
    ·rfl
    ·simp only[hc.1,Bool.true_and,bN,dN]
     rw[hc.2];exact h1
   rw[hst]
   obtain⟨l,_,h4⟩:=w0s (ok:=ok) p ms (st.1++[x.t],st.2++[rowOf p x])
   simp only
   rw[h4,J0s,J0s,h2]
   simp[rowOf,hc.2]
  |false=>
   have hne: ∀q,q∈(step3 ok p st x).2->q∈st.2\/q.2≠s:=by
    intro q hq
    unfold step3 at hq
    split at hq
    ·rename_i hq2
     simp only[bA]at hq2
     rcases mA.1 hq with hq |hq
     ·exact .inl hq
     ·simp only[mC,List.not_mem_nil,or_false]at hq
      subst hq
      right
      simpa[hq2.1]using hc
    ·exact .inl hq
   have hk:s∉(step3 ok p st x).1:=by
    unfold step3
    split
    ·rename_i hq2
     simp only[bA]at hq2
     intro hm
     rcases mA.1 hm with hm |hm
     ·exact h1 hm
     ·simp only[mC,List.not_mem_nil,or_false]at hm
      simp[hq2.1,hm]at hc
    ·exact h1
   refine W0Q ms _ hk ?_
   rw[List.find?_eq_none]at h2⊢
   intro q hq
   rcases hne q hq with h |h
   ·exact h2 q h
   ·simpa using h
theorem J0t{s:Int}: ∀(layer:List PE) (st:List Int×List PE),s∉st.1->st.2.find? (fun p=>decide (p.2=s))=none->
  match hitC es ok s layer with
  |some r=>(nextL es ok layer st).2.find? (fun p=>decide (p.2=s))=some (r,s)
  |none=>s∉(nextL es ok layer st).1/\(nextL es ok layer st).2.find? (fun p=>decide (p.2=s))=none
 | [],st,h1,h2=>⟨h1,h2⟩
 |p::layer,st,h1,h2=>by
  have hf:=W0Q (ok:=ok) (p:=p) (mv es p.2) st h1 h2
  unfold hitC nextL
  rw[List.foldl_cons]
  cases hc:(mv es p.2).find? (fun x=>ok x&&decide (x.t=s))with
  |some x=>
   rw[hc]at hf
   simp only at hf⊢
   obtain⟨l,_,h4⟩:=w0t (es:=es) (ok:=ok) layer ((mv es p.2).foldl (step3 ok p) st)
   have hx:=List.find?_some hc
   simp only[bA,dE]at hx
   unfold nextL at h4
   rw[h4,J0s,hf]
   simp[rowOf,hx.2]
  |none=>
   rw[hc]at hf
   exact J0t layer _ hf.1 hf.2
theorem W0R(hok: ∀e∈es,eOK (N:Int) e=true){D:Nat->Nat->Bool}{xs:List (Bool×List Int)}{s:Nat}: ∀(f:Nat) (ks:List Int) (layer:List PE),(ks.Nodup/\ ∀k∈ks,0<=k/\k<(N:Int))->N+2<=f+ks.length->(befF es D xs s f ks layer).isSome=true
 | 0,ks,layer,h,hf=>by have:=j0n h;omega
 |f+1,ks,layer,h,hf=>by
  simp only[befF]
  split
  ·rfl
  ·cases bestL es (condB D xs s) layer none with
   |some b=>rfl
   |none=>
    simp only
    have h1:=z0y (es:=es) (ok:=fun x=> !decide (x.a∈atC xs s)) layer (ks,[])
    have h2:=q0V hok (ok:=fun x=> !decide (x.a∈atC xs s)) layer (ks,[]) h
    simp only[List.length_nil,Nat.add_zero]at h1
    generalize nextL es (fun x=> !decide (x.a∈atC xs s)) layer (ks,[])=q at h1 h2
    by_cases h0:q.2=[]
    ·have:=j0n h
     obtain⟨f',rfl⟩: ∃f',f=f'+1:=⟨f - 1,by omega⟩
     simp[befF,h0]
    ·have:=List.length_pos_iff.2 h0
     exact W0R hok f _ _ h2 (by omega)
theorem W0S(hok: ∀e∈es,eOK (N:Int) e=true){xs:List (Bool×List Int)}{s:Nat}: ∀(f:Nat) (ks:List Int) (layer:List PE),(ks.Nodup/\ ∀k∈ks,0<=k/\k<(N:Int))->N+2<=f+ks.length->(cirF es xs s f ks layer).isSome=true
 | 0,ks,layer,h,hf=>by have:=j0n h;omega
 |f+1,ks,layer,h,hf=>by
  simp only[cirF]
  split
  ·rfl
  ·split
   ·rfl
   ·have h1:=z0y (es:=es) (ok:=okC es xs) layer (ks,[])
    have h2:=q0V hok (ok:=okC es xs) layer (ks,[]) h
    simp only[List.length_nil,Nat.add_zero]at h1
    generalize nextL es (okC es xs) layer (ks,[])=q at h1 h2
    by_cases h0:q.2=[]
    ·have:=j0n h
     obtain⟨f',rfl⟩: ∃f',f=f'+1:=⟨f - 1,by omega⟩
     simp[cirF,h0]
    ·have:=List.length_pos_iff.2 h0
     exact W0S hok f _ _ h2 (by omega)
theorem w0Z(hN:N<=60)(hok: ∀e∈es,eOK (N:Int) e=true){D:Nat->Nat->Bool}{xs:List (Bool×List Int)}{s:Nat}(hs:s<N): ∃r,befR es D xs s=some r:=by
 unfold befR
 split
 ·exact⟨_,rfl⟩
 ·exact Option.isSome_iff_exists.1 (W0R hok 100 _ _ ⟨by simp,fun k hk=>by simp only[mC,List.not_mem_nil,or_false]at hk;omega⟩ (by simp;omega))
theorem k0q(hN:N<=60)(hok: ∀e∈es,eOK (N:Int) e=true){xs:List (Bool×List Int)}{s:Nat}(hs:s<N): ∃r,cirR es xs s=some r:=by
 unfold cirR
 split
 ·exact⟨_,rfl⟩
 ·exact Option.isSome_iff_exists.1 (W0S hok 100 _ _ ⟨by simp,fun k hk=>by cases hk⟩ (by simp;omega))
end
end Go.Proofs.Ythjjbkiejkhjfaa.R
