/- - -/
import Derived.Test.YtglkhoamnmiolaaE9
set_option linter.all false
namespace Go.Proofs.Ytglkhoamnmiolaa.R
open Go Go.Proofs.Ytglkhoamnmiolaa.Vm
def Inf(nx:Nat->Nat->Prop)(m:Nat)(S:Nat->Nat->Prop)(v:Nat):Prop:=
 ∃f:Nat->Nat,f 0=v/\(∀i,nx (f i) (f (i+1)))/\ ∀k,k<m-> ∀N,∃i,N<=i/\S k (f i)
def Rn(nx:Nat->Nat->Prop)(P T:Nat->Prop):Nat->Nat->Prop
 | 0,v=> ∃w,nx v w/\P w/\T w
 |n+1,v=> ∃w,nx v w/\P w/\Rn nx P T n w
section
variable{nx:Nat->Nat->Prop}{m:Nat}{S:Nat->Nat->Prop}{P T:Nat->Prop}
theorem Inf.shift{f:Nat->Nat}(h1: ∀i,nx (f i) (f (i+1)))(h2: ∀k,k<m-> ∀N,∃i,N<=i/\S k (f i))(j:Nat):Inf nx m S (f j):=
 ⟨fun i=>f (j+i),rfl,fun i=>h1 (j+i),fun k hk N=>by
  obtain⟨i,hi,hs⟩:=h2 k hk (j+N)
  exact⟨i - j,by omega,by show S k (f (j+(i - j)));rw[show j+(i - j)=i by omega];exact hs⟩⟩
theorem Inf.reach(hP: ∀u,Inf nx m S u->P u){k:Nat}(hk:k<m){v:Nat}(h:Inf nx m S v): ∃n,Rn nx P (S k) n v:=by
 obtain⟨f,rfl,h1,h2⟩:=h
 obtain⟨i,hi,hs⟩:=h2 k hk 1
 have key: ∀d j,j+d+1=i->Rn nx P (S k) d (f j):=by
  intro d
  induction d with
  |zero=>intro j hj;exact⟨f (j+1),h1 j,hP _ (Inf.shift h1 h2 _),by rw[show j+1=i by omega];exact hs⟩
  |succ d ih=>intro j hj;exact⟨f (j+1),h1 j,hP _ (Inf.shift h1 h2 _),ih (j+1) (by omega)⟩
 exact⟨i - 1,key (i - 1) 0 (by omega)⟩
theorem Inf.none{v:Nat}(hP: ∀u,Inf nx 0 S u->P u)(h:Inf nx 0 S v): ∃n,Rn nx P (fun _=>True) n v:=by
 obtain⟨f,rfl,h1,h2⟩:=h
 exact⟨0,f 1,h1 0,hP _ (Inf.shift h1 h2 1),trivial⟩
theorem X0u{p:Nat->Prop}(h: ∃n,p n): ∃n,p n/\ ∀j,p j->n<=j:=by
 obtain⟨n,hn⟩:=h
 induction n using Nat.strongRecOn with
 |_ n ih=>
  by_cases hj: ∃j,j<n/\p j
  ·obtain⟨j,h1,h2⟩:=hj;exact ih j h1 h2
  ·exact⟨n,hn,fun j h2=>Nat.le_of_not_lt fun h1=>hj ⟨j,h1,h2⟩⟩
open Classical in
noncomputable def Ds(nx:Nat->Nat->Prop)(P:Nat->Prop)(S:Nat->Nat->Prop)(k u:Nat):Nat:=if h: ∃n,Rn nx P (S k) n u then(X0u h).choose else 0
open Classical in
theorem z0m{k u:Nat}(h: ∃n,Rn nx P (S k) n u): ∃w,nx u w/\P w/\(S k w\/Ds nx P S k w<Ds nx P S k u):=by
 have e:Ds nx P S k u=(X0u h).choose:=by unfold Ds;rw[dif_pos h]
 have hm:=(X0u h).choose_spec.1
 rw[<-e]at hm
 generalize Ds nx P S k u=n at hm⊢
 cases n with
 |zero=>obtain⟨w,h1,h2,h3⟩:=hm;exact⟨w,h1,h2, .inl h3⟩
 |succ n=>
  obtain⟨w,h1,h2,h3⟩:=hm
  refine⟨w,h1,h2, .inr ?_⟩
  have hw: ∃n,Rn nx P (S k) n w:=⟨n,h3⟩
  have:Ds nx P S k w=(X0u hw).choose:=by unfold Ds;rw[dif_pos hw]
  rw[this]
  exact Nat.lt_succ_of_le ((X0u hw).choose_spec.2 _ h3)
open Classical in
noncomputable def goOn(nx:Nat->Nat->Prop)(P:Nat->Prop)(S:Nat->Nat->Prop)(m:Nat)(q:Nat×Nat):Nat×Nat:=
 if h: ∃n,Rn nx P (S q.2) n q.1 then((z0m h).choose,if S q.2 (z0m h).choose then(q.2+1) % m else q.2)else q
noncomputable def goes(nx:Nat->Nat->Prop)(P:Nat->Prop)(S:Nat->Nat->Prop)(m v:Nat):Nat->Nat×Nat
 | 0=>(v,0)
 |i+1=>goOn nx P S m (goes nx P S m v i)
theorem k0E(hm:0<m)(hk: ∀u,P u-> ∀k,k<m-> ∃n,Rn nx P (S k) n u){v:Nat}(hv:P v):Inf nx m S v:=by
 have inv: ∀i,P (goes nx P S m v i).1/\(goes nx P S m v i).2<m:=by
  intro i
  induction i with
  |zero=>exact⟨hv,hm⟩
  |succ i ih=>
   have hex:=hk _ ih.1 _ ih.2
   simp only[goes,goOn,dif_pos hex]
   refine⟨(z0m hex).choose_spec.2.1, ?_⟩
   split
   ·exact Nat.mod_lt _ hm
   ·exact ih.2
 have stp: ∀i,nx (goes nx P S m v i).1 (goes nx P S m v (i+1)).1:=by
  intro i
  have hex:=hk _ (inv i).1 _ (inv i).2
  simp only[goes,goOn,dif_pos hex]
  exact(z0m hex).choose_spec.1
 have meet: ∀(d i:Nat),Ds nx P S (goes nx P S m v i).2 (goes nx P S m v i).1<=d-> ∃j,i<j/\S (goes nx P S m v i).2 (goes nx P S m v j).1/\(goes nx P S m v j).2=((goes nx P S m v i).2+1) % m:=by
  intro d
  induction d with
  |zero=>
   intro i hd
   have hex:=hk _ (inv i).1 _ (inv i).2
   have hs:=(z0m hex).choose_spec.2.2
   refine⟨i+1,by omega, ?_⟩
   rcases hs with hs |hs
   ·simp only[goes,goOn,dif_pos hex,if_pos hs]
    exact⟨hs,trivial⟩
   ·omega
  |succ d ih=>
   intro i hd
   have hex:=hk _ (inv i).1 _ (inv i).2
   have hs:=(z0m hex).choose_spec.2.2
   by_cases hS:S (goes nx P S m v i).2 (z0m hex).choose
   ·refine⟨i+1,by omega, ?_⟩
    simp only[goes,goOn,dif_pos hex,if_pos hS]
    exact⟨hS,trivial⟩
   ·have hlt:=hs.resolve_left hS
    have e1:(goes nx P S m v (i+1)).2=(goes nx P S m v i).2:=by simp only[goes,goOn,dif_pos hex,if_neg hS]
    have e2:(goes nx P S m v (i+1)).1=(z0m hex).choose:=by simp only[goes,goOn,dif_pos hex]
    obtain⟨j,h1,h2,h3⟩:=ih (i+1) (by rw[e1,e2];omega)
    rw[e1]at h2 h3
    exact⟨j,by omega,h2,h3⟩
 have turn: ∀(t i:Nat),∃j,i<=j/\(goes nx P S m v j).2=((goes nx P S m v i).2+t) % m:=by
  intro t
  induction t with
  |zero=>intro i;exact⟨i,nR _,(Nat.mod_eq_of_lt (inv i).2).symm⟩
  |succ t ih=>
   intro i
   obtain⟨j,h1,h2⟩:=ih i
   obtain⟨j',g1,_,g3⟩:=meet _ j (nR _)
   refine⟨j',by omega, ?_⟩
   rw[g3,h2,Nat.mod_add_mod,Nat.add_assoc]
 refine⟨fun i=>(goes nx P S m v i).1,rfl,stp,fun k hkm N=> ?_⟩
 obtain⟨j,h1,h2⟩:=turn (k+m - (goes nx P S m v N).2) N
 have hlt:=(inv N).2
 rw[show(goes nx P S m v N).2+(k+m - (goes nx P S m v N).2)=k+m by omega,Nat.add_mod_right,Nat.mod_eq_of_lt hkm]at h2
 obtain⟨j',g1,g2,_⟩:=meet _ j (nR _)
 rw[h2]at g2
 exact⟨j',by omega,g2⟩
theorem w0z(hk: ∀u,P u-> ∃n,Rn nx P (fun _=>True) n u){v:Nat}(hv:P v):Inf nx 0 S v:=by
 obtain⟨f,h1,h2,_⟩:=k0E (m:=1) (S:=fun _ _=>True) (by omega) (fun u hu k _=>hk u hu) hv
 exact⟨f,h1,h2,fun k hk=>absurd hk (Nat.not_lt_zero _)⟩
end
end Go.Proofs.Ytglkhoamnmiolaa.R
