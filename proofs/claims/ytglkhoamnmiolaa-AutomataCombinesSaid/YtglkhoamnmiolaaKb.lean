/- - -/
import Derived.Test.YtglkhoamnmiolaaKa
set_option linter.all false
namespace Go.Proofs.Ytglkhoamnmiolaa.R
open Go Go.Proofs.Ytglkhoamnmiolaa.Vm
structure Au where
 init:Nat->Prop
 step:Nat->Nat->Nat->Prop
 m:Nat
 acc:Nat->Nat->Prop
def Acc(A:Au)(w:Nat->Nat):Prop:=
 ∃ρ:Nat->Nat,A.init (ρ 0)/\(∀i,A.step (ρ i) (w i) (ρ (i+1)))/\ ∀k,k<A.m-> ∀N,∃i,N<=i/\A.acc k (ρ i)
theorem z1n{A B X:Au}{b:Nat}{w:Nat->Nat}(hb: ∀s c t,B.step s c t->s<b/\t<b)(hi: ∀s,X.init s↔ ∃x y,A.init x/\B.init y/\s=x*b+y)
  (hbi: ∀s,B.init s->s<b) (hs: ∀i s t,X.step s (w i) t↔ ∃x y x' y',A.step x (w i) x'/\B.step y (w i) y'/\s=x*b+y/\t=x'*b+y')
  (hm:X.m=A.m+B.m) (h1: ∀k x y,k<A.m->y<b->(X.acc k (x*b+y)↔A.acc k x)) (h2: ∀k x y,k<B.m->y<b->(∃c x',A.step x c x')->(X.acc (A.m+k) (x*b+y)↔B.acc k y)):
  Acc X w↔Acc A w/\Acc B w:=by
 have dv: ∀x y,y<b->(x*b+y) / b=x/\(x*b+y) % b=y:=fun x y hy=>by
  have hb0:0<b:=by omega
  rw[Nat.mul_comm x b,Nat.mul_add_div hb0,Nat.mul_add_mod,Nat.div_eq_of_lt hy,Nat.mod_eq_of_lt hy]
  exact⟨rfl,rfl⟩
 constructor
 ·rintro⟨ρ,r1,r2,r3⟩
  have ex: ∀i,A.step (ρ i / b) (w i) (ρ (i+1) / b)/\B.step (ρ i % b) (w i) (ρ (i+1) % b):=fun i=>by
   obtain⟨x,y,x',y',g1,g2,g3,g4⟩:=(hs i _ _).1 (r2 i)
   obtain⟨g5,g6⟩:=hb _ _ _ g2
   obtain⟨d1,d2⟩:=dv x y g5
   obtain⟨d3,d4⟩:=dv x' y' g6
   rw[g3,g4,d1,d2,d3,d4]
   exact⟨g1,g2⟩
  have form: ∀i,ρ i=ρ i / b*b+ρ i % b:=fun i=>(Nat.div_add_mod' (ρ i) b).symm
  have lt: ∀i,ρ i % b<b:=fun i=>(hb _ _ _ (ex i).2).1
  obtain⟨x,y,g1,g2,g3⟩:=(hi _).1 r1
  obtain⟨d1,d2⟩:=dv x y (hbi y g2)
  refine⟨⟨fun i=>ρ i / b, ?_,fun i=>(ex i).1,fun k hk N=> ?_⟩,fun i=>ρ i % b, ?_,fun i=>(ex i).2,fun k hk N=> ?_⟩
  ·show A.init (ρ 0 / b);rw[g3,d1];exact g1
  ·obtain⟨i,hi1,hi2⟩:=r3 k (by omega) N
   rw[form i]at hi2
   exact⟨i,hi1,(h1 k _ _ hk (lt i)).1 hi2⟩
  ·show B.init (ρ 0 % b);rw[g3,d2];exact g2
  ·obtain⟨i,hi1,hi2⟩:=r3 (A.m+k) (by omega) N
   rw[form i]at hi2
   exact⟨i,hi1,(h2 k _ _ hk (lt i) ⟨_,_,(ex i).1⟩).1 hi2⟩
 ·rintro⟨⟨ρ,r1,r2,r3⟩,σ,s1,s2,s3⟩
  have lt: ∀i,σ i<b:=fun i=>(hb _ _ _ (s2 i)).1
  refine⟨fun i=>ρ i*b+σ i,(hi _).2 ⟨_,_,r1,s1,rfl⟩,fun i=>(hs i _ _).2 ⟨_,_,_,_,r2 i,s2 i,rfl,rfl⟩,fun k hk N=> ?_⟩
  by_cases hka:k<A.m
  ·obtain⟨i,hi1,hi2⟩:=r3 k hka N
   exact⟨i,hi1,(h1 k _ _ hka (lt i)).2 hi2⟩
  ·obtain⟨i,hi1,hi2⟩:=s3 (k - A.m) (by omega) N
   refine⟨i,hi1, ?_⟩
   have:=(h2 (k - A.m) (ρ i) (σ i) (by omega) (lt i) ⟨_,_,r2 i⟩).2 hi2
   rw[show A.m+(k - A.m)=k by omega]at this
   exact this
def adv(acc:Nat->Nat->Bool)(m t:Nat):Nat->Nat->Nat
 | 0,k=>k
 |d+1,k=>if k<m/\acc k t=true then adv acc m t d (k+1)else k
def lev(acc:Nat->Nat->Bool)(m t lv:Nat):Nat:=adv acc m t (m+1) (if lv=m then 0 else lv)
section
variable{acc:Nat->Nat->Bool}{m t:Nat}
theorem Q0j: ∀(d k:Nat),k<=m->k<=adv acc m t d k/\adv acc m t d k<=m
 | 0,k,h=>⟨nR _,h⟩
 |d+1,k,h=>by
  simp only[adv]
  split
  ·rename_i hc
   have:=Q0j d (k+1) (by omega)
   omega
  ·exact⟨nR _,h⟩
theorem q1N: ∀(d k j:Nat),k<=j->j<adv acc m t d k->acc j t=true
 | 0,k,j,h1,h2=>by simp only[adv]at h2;omega
 |d+1,k,j,h1,h2=>by
  simp only[adv]at h2
  split at h2
  ·rename_i hc
   rcases Nat.lt_or_ge k j with h |h
   ·exact q1N d (k+1) j h h2
   ·have:j=k:=by omega
    rw[this];exact hc.2
  ·omega
theorem z1o(d k:Nat)(h:k<m)(ha:acc k t=true):k<adv acc m t (d+1) k:=by
 simp only[adv,if_pos (And.intro h ha)]
 have:=Q0j (acc:=acc) (m:=m) (t:=t) d (k+1) (by omega)
 omega
theorem q1O{lv:Nat}(h:lv<=m):lev acc m t lv<=m:=by
 unfold lev
 split
 ·exact(Q0j _ _ (Nat.zero_le _)).2
 ·exact(Q0j _ _ h).2
end
theorem k1R{A X:Au}{acc:Nat->Nat->Bool}{w:Nat->Nat}(ha: ∀k s,A.acc k s↔acc k s=true)(hi: ∀s,X.init s↔ ∃x,A.init x/\s=x*(A.m+1))
  (hs: ∀i s t,X.step s (w i) t↔ ∃x lv x',A.step x (w i) x'/\lv<=A.m/\s=x*(A.m+1)+lv/\t=x'*(A.m+1)+lev acc A.m x' lv)
  (hm:X.m=1) (h1: ∀x lv,lv<=A.m->(∃c x',A.step x c x')->(X.acc 0 (x*(A.m+1)+lv)↔lv=A.m)):Acc X w↔Acc A w:=by
 have dv: ∀x y,y<=A.m->(x*(A.m+1)+y) / (A.m+1)=x/\(x*(A.m+1)+y) % (A.m+1)=y:=fun x y hy=>by
  rw[Nat.mul_comm x,Nat.mul_add_div (Nat.succ_pos _),Nat.mul_add_mod,Nat.div_eq_of_lt (by omega),Nat.mod_eq_of_lt (by omega)]
  exact⟨rfl,rfl⟩
 constructor
 ·rintro⟨ρ,r1,r2,r3⟩
  have ex: ∀i,A.step (ρ i / (A.m+1)) (w i) (ρ (i+1) / (A.m+1))/\ρ (i+1) % (A.m+1)=lev acc A.m (ρ (i+1) / (A.m+1)) (ρ i % (A.m+1)):=fun i=>by
   obtain⟨x,lv,x',g1,g2,g3,g4⟩:=(hs i _ _).1 (r2 i)
   obtain⟨d1,d2⟩:=dv x lv g2
   obtain⟨d3,d4⟩:=dv x' (lev acc A.m x' lv) (q1O g2)
   rw[g3,g4,d1,d2,d3,d4]
   exact⟨g1,rfl⟩
  have form: ∀i,ρ i=ρ i / (A.m+1)*(A.m+1)+ρ i % (A.m+1):=fun i=>(Nat.div_add_mod' (ρ i) (A.m+1)).symm
  have top: ∀N,∃i,N<=i/\ρ i % (A.m+1)=A.m:=fun N=>by
   obtain⟨i,g1,g2⟩:=r3 0 (by omega) N
   refine⟨i,g1, ?_⟩
   rw[form i]at g2
   exact(h1 _ _ (Nat.le_of_lt_succ (Nat.mod_lt _ (Nat.succ_pos _))) ⟨_,_,(ex i).1⟩).1 g2
  obtain⟨x,g1,g2⟩:=(hi _).1 r1
  have d0:=(dv x 0 (Nat.zero_le _)).1
  rw[Nat.add_zero,<-g2]at d0
  refine⟨fun i=>ρ i / (A.m+1), ?_,fun i=>(ex i).1,fun k hk N=> ?_⟩
  ·show A.init (ρ 0 / (A.m+1));rw[d0];exact g1
  ·obtain⟨j,j1,j2⟩:=top N
   have met: ∀d k,k<ρ (j+d+1) % (A.m+1)-> ∃i,j<i/\acc k (ρ i / (A.m+1))=true:=by
    intro d
    induction d with
    |zero=>
     intro k hk
     rw[Nat.add_zero,(ex j).2,j2,lev,if_pos rfl]at hk
     exact⟨j+1,by omega,q1N _ _ _ (Nat.zero_le _) hk⟩
    |succ d ih=>
     intro k hk
     rw[show j+(d+1)+1=(j+d+1)+1 by omega,(ex (j+d+1)).2,lev]at hk
     split at hk
     ·rename_i he
      refine ih k ?_
      rw[he]
      have:=(Q0j (acc:=acc) (m:=A.m) (t:=ρ (j+d+1+1) / (A.m+1)) (A.m+1) 0 (Nat.zero_le _)).2
      omega
     ·rcases Nat.lt_or_ge k (ρ (j+d+1) % (A.m+1))with h |h
      ·exact ih k h
      ·exact⟨j+d+1+1,by omega,q1N _ _ _ h hk⟩
   obtain⟨j',k1,k2⟩:=top (j+1)
   obtain⟨i,i1,i2⟩:=met (j' - j - 1) k (by rw[show j+(j' - j - 1)+1=j' by omega,k2];exact hk)
   exact⟨i,by omega,(ha _ _).2 i2⟩
 ·rintro⟨ρ,r1,r2,r3⟩
  let lv:Nat->Nat:=fun i=>Nat.rec 0 (fun i l=>lev acc A.m (ρ (i+1)) l) i
  have lv0:lv 0=0:=rfl
  have lvs: ∀i,lv (i+1)=lev acc A.m (ρ (i+1)) (lv i):=fun i=>rfl
  have le: ∀i,lv i<=A.m:=by
   intro i
   induction i with
   |zero=>exact Nat.zero_le _
   |succ i ih=>rw[lvs];exact q1O ih
  have rise: ∀d i,(∃t,i<t/\t<=i+d/\acc (lv i) (ρ t)=true)->lv i<A.m-> ∃j,i<j/\lv i<lv j:=by
   intro d
   induction d with
   |zero=>intro i ⟨t,t1,t2,_⟩;omega
   |succ d ih=>
    intro i ⟨t,t1,t2,t3⟩ hlt
    have up:lv i<=lv (i+1):=by rw[lvs,lev,if_neg (by omega)];exact(Q0j _ _ (le i)).1
    rcases Nat.lt_or_ge (lv i) (lv (i+1))with h |h
    ·exact⟨i+1,by omega,h⟩
    ·have e:lv (i+1)=lv i:=by omega
     have hne:t≠i+1:=by
      intro et
      rw[et]at t3
      have:=z1o (acc:=acc) (m:=A.m) (t:=ρ (i+1)) A.m (lv i) hlt t3
      rw[lvs,lev,if_neg (by omega)]at h
      omega
     obtain⟨j,k1,k2⟩:=ih (i+1) ⟨t,by omega,by omega,by rw[e];exact t3⟩ (by omega)
     exact⟨j,by omega,by omega⟩
  have top: ∀d i,A.m - lv i<=d-> ∃j,i<=j/\lv j=A.m:=by
   intro d
   induction d with
   |zero=>intro i h;have:=le i;exact⟨i,nR _,by omega⟩
   |succ d ih=>
    intro i h
    rcases Nat.lt_or_ge (lv i) A.m with hlt |hge
    ·obtain⟨t,t1,t2⟩:=r3 (lv i) hlt (i+1)
     obtain⟨j,k1,k2⟩:=rise (t - i) i ⟨t,by omega,by omega,(ha _ _).1 t2⟩ hlt
     obtain⟨j',k3,k4⟩:=ih j (by omega)
     exact⟨j',by omega,k4⟩
    ·have:=le i;exact⟨i,nR _,by omega⟩
  refine⟨fun i=>ρ i*(A.m+1)+lv i,(hi _).2 ⟨ρ 0,r1,rfl⟩,fun i=>(hs i _ _).2 ⟨_,_,_,r2 i,le i,rfl,rfl⟩,fun k hk N=> ?_⟩
  obtain⟨j,j1,j2⟩:=top _ N (nR _)
  have:k=0:=by omega
  subst this
  exact⟨j,j1,(h1 _ _ (le j) ⟨_,_,r2 j⟩).2 j2⟩
end Go.Proofs.Ytglkhoamnmiolaa.R
