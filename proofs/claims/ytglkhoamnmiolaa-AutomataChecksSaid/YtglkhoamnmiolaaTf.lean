/- - -/
import Derived.Test.YtglkhoamnmiolaaTd
set_option linter.all false
namespace Go.Proofs.Ytglkhoamnmiolaa.R
open Go Go.Proofs.Ytglkhoamnmiolaa.Vm
theorem j0b{n:Nat}{rows:List (Bool×List Int)}(hT:Table n rows){x y:Nat}:y∈nxL rows x↔nxT rows x y:=by
 unfold nxL nxT
 constructor
 ·intro h
  obtain⟨z,h1,h2⟩:=List.mem_map.1 h
  have hz:0<=z:=by
   rw[lG]at h1
   cases e:rows[x]? with
   |none=>rw[e]at h1;cases h1
   |some r=>rw[e]at h1;exact(hT.2.1 r (List.mem_of_getElem? e) z h1).1
  rw[<-h2,Int.toNat_of_nonneg hz];exact h1
 ·intro h
  exact List.mem_map.2 ⟨_,h,rfl⟩
theorem w1t{n:Nat}{rows:List (Bool×List Int)}(hT:Table n rows){x y:Nat}(h:nxT rows x y):x<n/\y<n:=⟨z1o hT.1 h,K0v hT x y ((j0b hT).2 h)⟩
def Both(nx:Nat->List Nat)(u v:Nat):Prop:=Rch nx u v/\Rch nx v u
def GoodN(nx:Nat->List Nat)(m:Nat)(S:Nat->Nat->Prop)(u:Nat):Prop:=
 (∃a b,b∈nx a/\Both nx u a/\Both nx u b)/\ ∀k,k<m-> ∃t,Both nx u t/\S k t
theorem Both.refl(nx:Nat->List Nat)(u:Nat):Both nx u u:=⟨.refl u, .refl u⟩
section
variable{rows:List (Bool×List Int)}{n m:Nat}{S:Nat->Nat->Prop}(hT:Table n rows)
include hT
open Classical in
theorem Z0L{v:Nat}(h:Inf (nxT rows) m S v): ∃u,Rch (nxL rows) v u/\GoodN (nxL rows) m S u:=by
 let X:Nat->Prop:=fun u=>Inf (nxT rows) m S u
 let R:Nat->List Nat:=fun u=>(List.range n).filter fun w=>decide (X w/\Rch (nxL rows) u w)
 obtain⟨z,⟨u,hu1,hu2,hu3⟩,hmin⟩:=X0u (p:=fun z=> ∃u,X u/\Rch (nxL rows) v u/\(R u).length=z) ⟨_,v,h, .refl v,rfl⟩
 have sub: ∀w,Rch (nxL rows) u w->X w->Rch (nxL rows) w u:=fun w h1 h2=>by
  have h3:=hmin _ ⟨w,h2,hu2.trans h1,rfl⟩
  rw[<-hu3]at h3
  have hun:u<n:=Inf.lt hT.1 hu1
  have sl:(R w).Sublist (R u):=by
   have e:R w=(R u).filter fun x=>decide (X x/\Rch (nxL rows) w x):=by
    show _=((List.range n).filter _).filter _
    rw[List.filter_filter]
    refine List.filter_congr fun x _=> ?_
    by_cases hx:X x/\Rch (nxL rows) w x
    ·have:X x/\Rch (nxL rows) u x:=⟨hx.1,h1.trans hx.2⟩
     simp[hx,this]
    ·simp[hx]
   rw[e];exact List.filter_sublist
  have e:=sl.eq_of_length_le h3
  have:u∈R u:=List.mem_filter.2 ⟨List.mem_range.2 hun,by simpa using⟨hu1,Rch.refl u⟩⟩
  rw[<-e]at this
  have:=(List.mem_filter.1 this).2
  simp only[dE]at this
  exact this.2
 obtain⟨f,hf0,hf1,hf2⟩:=hu1
 have hX: ∀i,X (f i):=fun i=>Inf.shift hf1 hf2 i
 have hR: ∀i,Rch (nxL rows) u (f i):=fun i=>by
  induction i with
  |zero=>rw[hf0];exact .refl u
  |succ i ih=>exact ih.trans (.one ((j0b hT).2 (hf1 i)))
 have hB: ∀i,Both (nxL rows) u (f i):=fun i=>⟨hR i,sub _ (hR i) (hX i)⟩
 refine⟨u,hu2,⟨f 0,f 1,(j0b hT).2 (hf1 0),hB 0,hB 1⟩,fun k hk=> ?_⟩
 obtain⟨i,_,hi⟩:=hf2 k hk 0
 exact⟨f i,hB i,hi⟩
theorem k1M{g:Nat}{P T:Nat->Prop}(hP: ∀u,Rch (nxL rows) u g->P u){t:Nat}(ht:T t)(htg:Rch (nxL rows) t g){w:Nat}(h:Rch (nxL rows) w t): ∀v,nxT rows v w-> ∃d,Rn (nxT rows) P T d v:=by
 induction h with
 |refl t=>exact fun v hv=>⟨0,t,hv,hP t htg,ht⟩
 | @step a b c h1 h2 ih=>
  intro v hv
  obtain⟨d,hd⟩:=ih ht htg a ((j0b hT).1 h1)
  exact⟨d+1,a,hv,hP a (Rch.step h1 (h2.trans htg)),hd⟩
theorem Z0M{v g:Nat}(hv:Rch (nxL rows) v g)(hg:GoodN (nxL rows) m S g):Inf (nxT rows) m S v:=by
 have key: ∀(T:Nat->Prop) (t:Nat),T t->Both (nxL rows) g t-> ∀u,Rch (nxL rows) u g-> ∃d,Rn (nxT rows) (fun u=>Rch (nxL rows) u g) T d u:=by
  intro T t ht hgt u hu
  obtain⟨⟨a,b,hab,⟨g1,g2⟩,g3,g4⟩,_⟩:=hg
  have hua:Rch (nxL rows) u a:=hu.trans g1
  have hbt:Rch (nxL rows) b t:=g4.trans hgt.1
  cases hua with
  |refl=>exact k1M hT (fun _ h=>h) ht hgt.2 hbt u ((j0b hT).1 hab)
  |step h1 h2=>exact k1M hT (fun _ h=>h) ht hgt.2 (h2.trans (Rch.step hab hbt)) u ((j0b hT).1 h1)
 by_cases hm:0<m
 ·refine k0E (P:=fun u=>Rch (nxL rows) u g) hm (fun u hu k hk=> ?_) hv
  obtain⟨t,ht1,ht2⟩:=hg.2 k hk
  exact key (S k) t ht2 ht1 u hu
 ·obtain rfl:m=0:=by omega
  refine w0z (P:=fun u=>Rch (nxL rows) u g) (fun u hu=> ?_) hv
  exact key (fun _=>True) g trivial (Both.refl _ g) u hu
theorem j1N{v:Nat}:Inf (nxT rows) m S v↔ ∃u,Rch (nxL rows) v u/\GoodN (nxL rows) m S u:=
 ⟨Z0L hT,fun⟨u,h1,h2⟩=>Z0M hT h1 h2⟩
end
end Go.Proofs.Ytglkhoamnmiolaa.R
