/- - -/
import Derived.Test.YthjjbkiejkhjfaaWt
set_option linter.all false
namespace Go.Proofs.Ythjjbkiejkhjfaa.R
open Go Go.Proofs.Ythjjbkiejkhjfaa.Vm
inductive Way (es:List E3) (ok:E3->Bool) (s:Int):Int->Prop
 |one (e:E3):e∈es->ok e=true->e.f=s->Way es ok s e.t
 |step (e:E3):Way es ok s e.f->e∈es->ok e=true->Way es ok s e.t
section
variable{N:Nat}{es:List E3}{ok:E3->Bool}{xs ys:List (Bool×List Int)}
theorem Y0T(hok: ∀e∈es,eOK (N:Int) e=true){e:E3}(he:e∈es):e∈mv es e.f:=by
 have key: ∀(d a:Nat),a+d=12->(a:Int)<=e.a->e∈mvF es e.f d a:=by
  intro d
  induction d with
  |zero=>
   intro a ha h
   obtain⟨⟨_,_,_,h4⟩,_⟩:=q0w (hok e he)
   omega
  |succ d ih=>
   intro a ha h
   unfold mvF
   rw[mA]
   by_cases h1:e.a=(a:Int)
   ·left
    obtain⟨j,hj⟩:=List.getElem?_of_mem he
    exact List.mem_map.2 ⟨(j:Int),mem_steps.2 ⟨j,e,rfl,hj,rfl,h1⟩,j0w hj⟩
   ·right
    exact ih (a+1) (by omega) (by omega)
 obtain⟨⟨_,_,h3,_⟩,_⟩:=q0w (hok e he)
 exact key 12 0 (by omega) (by omega)
theorem w0D{p:PE}: ∀(ms:List E3) (st:List Int×List PE) (k:Int),k∈st.1->k∈(ms.foldl (step3 ok p) st).1
 | [],_,_,h=>h
 |x::ms,st,k,h=>by
  refine w0D ms _ k ?_
  unfold step3
  split
  ·exact List.mem_append_left _ h
  ·exact h
theorem W0a{p:PE}: ∀(ms:List E3) (st:List Int×List PE) (x:E3),x∈ms->ok x=true->x.t∈(ms.foldl (step3 ok p) st).1
 |y::ms,st,x,hx,ho=>by
  rw[List.foldl_cons]
  rcases mC.1 hx with rfl |hx
  ·refine w0D ms _ _ ?_
   unfold step3
   split
   ·simp
   ·rename_i h
    simpa[ho]using h
  ·exact W0a ms _ x hx ho
theorem W0b{p:PE}: ∀(ms:List E3) (st:List Int×List PE),(∀k∈(ms.foldl (step3 ok p) st).1,k∈st.1\/(∃x∈ms,ok x=true/\k=x.t)/\ ∃q∈(ms.foldl (step3 ok p) st).2,q.2=k)/\
  ∀q∈(ms.foldl (step3 ok p) st).2,q∈st.2\/ ∃x∈ms,ok x=true/\q.2=x.t
 | [],st=>⟨fun k h=> .inl h,fun q h=> .inl h⟩
 |x::ms,st=>by
  obtain⟨h1,h2⟩:=W0b (p:=p) ms (step3 ok p st x)
  obtain⟨l,_,hl⟩:=w0s (ok:=ok) p ms (step3 ok p st x)
  rw[List.foldl_cons]
  have hs:(ok x=true/\step3 ok p st x=(st.1++[x.t],st.2++[rowOf p x]))\/step3 ok p st x=st:=by
   unfold step3
   split
   ·rename_i h
    simp only[bA]at h
    exact .inl ⟨h.1,rfl⟩
   ·exact .inr rfl
  refine⟨fun k hk=> ?_,fun q hq=> ?_⟩
  ·rcases h1 k hk with h |⟨⟨y,hy,hy2⟩,h4⟩
   ·rcases hs with⟨ho,hs⟩ |hs
    ·rw[hs]at h
     rcases mA.1 h with h |h
     ·exact .inl h
     ·simp only[mC,List.not_mem_nil,or_false]at h
      refine .inr ⟨⟨x,by simp,ho,h⟩,rowOf p x, ?_,by rw[h];rfl⟩
      rw[hl,hs]
      simp
    ·rw[hs]at h;exact .inl h
   ·exact .inr ⟨⟨y,by simp[hy],hy2⟩,h4⟩
  ·rcases h2 q hq with h |⟨y,hy,hy2⟩
   ·rcases hs with⟨ho,hs⟩ |hs
    ·rw[hs]at h
     rcases mA.1 h with h |h
     ·exact .inl h
     ·simp only[mC,List.not_mem_nil,or_false]at h
      exact .inr ⟨x,by simp,ho,by rw[h];rfl⟩
    ·rw[hs]at h;exact .inl h
   ·exact .inr ⟨y,by simp[hy],hy2⟩
theorem w0E: ∀(layer:List PE) (st:List Int×List PE) (k:Int),k∈st.1->k∈(nextL es ok layer st).1
 | [],_,_,h=>h
 |p::layer,st,k,h=>by
  unfold nextL
  rw[List.foldl_cons]
  exact w0E layer _ k (w0D _ st k h)
theorem W0c: ∀(layer:List PE) (st:List Int×List PE) (p:PE) (x:E3),p∈layer->x∈mv es p.2->ok x=true->x.t∈(nextL es ok layer st).1
 |q::layer,st,p,x,hp,hx,ho=>by
  unfold nextL
  rw[List.foldl_cons]
  rcases mC.1 hp with rfl |hp
  ·exact w0E layer _ _ (W0a _ st x hx ho)
  ·exact W0c layer _ p x hp hx ho
theorem J0a: ∀(layer:List PE) (st:List Int×List PE),(∀k∈(nextL es ok layer st).1,k∈st.1\/(∃p∈layer,∃x∈mv es p.2,ok x=true/\k=x.t)/\ ∃q∈(nextL es ok layer st).2,q.2=k)/\
  ∀q∈(nextL es ok layer st).2,q∈st.2\/ ∃p∈layer,∃x∈mv es p.2,ok x=true/\q.2=x.t
 | [],st=>⟨fun k h=> .inl h,fun q h=> .inl h⟩
 |p::layer,st=>by
  obtain⟨a1,a2⟩:=W0b (ok:=ok) (p:=p) (mv es p.2) st
  obtain⟨b1,b2⟩:=J0a layer ((mv es p.2).foldl (step3 ok p) st)
  obtain⟨l,_,hl⟩:=w0t (es:=es) (ok:=ok) layer ((mv es p.2).foldl (step3 ok p) st)
  unfold nextL at b1 b2 hl⊢
  rw[List.foldl_cons]
  refine⟨fun k hk=> ?_,fun q hq=> ?_⟩
  ·rcases b1 k hk with h |⟨⟨p',hp',x,hx,ho⟩,h4⟩
   ·rcases a1 k h with h |⟨⟨x,hx,ho⟩,q,hq,hq2⟩
    ·exact .inl h
    ·exact .inr ⟨⟨p,by simp,x,hx,ho⟩,q,by rw[hl];exact List.mem_append_left _ hq,hq2⟩
   ·exact .inr ⟨⟨p',by simp[hp'],x,hx,ho⟩,h4⟩
  ·rcases b2 q hq with h |⟨p',hp',x,hx,ho⟩
   ·rcases a2 q h with h |⟨x,hx,ho⟩
    ·exact .inl h
    ·exact .inr ⟨p,by simp,x,hx,ho⟩
   ·exact .inr ⟨p',by simp[hp'],x,hx,ho⟩
structure BI (es:List E3) (ok:E3->Bool) (s:Int) (ks:List Int) (layer:List PE):Prop where
 lay: ∀p∈layer,p.2=s\/Way es ok s p.2
 known: ∀k∈ks,Way es ok s k
 done: ∀k,k=s\/k∈ks->(∃p∈layer,p.2=k)\/ ∀e∈es,e.f=k->ok e=true->e.t∈ks
theorem BI.next(hok: ∀e∈es,eOK (N:Int) e=true){s:Int}{ks:List Int}{layer:List PE}(h:BI es ok s ks layer):BI es ok s (nextL es ok layer (ks,[])).1 (nextL es ok layer (ks,[])).2:=by
 obtain⟨n1,n2⟩:=J0a (es:=es) (ok:=ok) layer (ks,[])
 have way: ∀p∈layer,∀x∈mv es p.2,ok x=true->Way es ok s x.t:=fun p hp x hx ho=>by
  obtain⟨hx1,hx2⟩:=z0Q hx
  rcases h.lay p hp with h1 |h1
  ·exact .one x hx1 ho (hx2.trans h1)
  ·exact .step x (by rw[hx2];exact h1) hx1 ho
 refine⟨fun q hq=> ?_,fun k hk=> ?_,fun k hk=> ?_⟩
 ·rcases n2 q hq with hq |⟨p,hp,x,hx,ho,e⟩
  ·cases hq
  ·rw[e];exact .inr (way p hp x hx ho)
 ·rcases n1 k hk with hk |⟨⟨p,hp,x,hx,ho,e⟩,_⟩
  ·exact h.known k hk
  ·rw[e];exact way p hp x hx ho
 ·have old:k=s\/k∈ks->(∃p∈(nextL es ok layer (ks,[])).2,p.2=k)\/ ∀e∈es,e.f=k->ok e=true->e.t∈(nextL es ok layer (ks,[])).1:=fun hk=>by
   rcases h.done k hk with⟨p,hp,hp2⟩ |h1
   ·exact .inr fun e he hf ho=>W0c layer _ p e hp (by rw[hp2,<-hf];exact Y0T hok he) ho
   ·exact .inr fun e he hf ho=>w0E layer _ _ (h1 e he hf ho)
  rcases hk with hk |hk
  ·exact old (.inl hk)
  ·rcases n1 k hk with hk |⟨_,q,hq,hq2⟩
   ·exact old (.inr hk)
   ·exact .inl ⟨q,hq,hq2⟩
theorem q1L(hok: ∀e∈es,eOK (N:Int) e=true){s:Nat}{r:List Int}: ∀(f:Nat) (ks:List Int) (layer:List PE),BI es (okC es xs) (s:Int) ks layer->(s:Int)∉ks->cirF es xs s f ks layer=some r->(r=[]↔ ¬Way es (okC es xs) (s:Int) (s:Int))
 | 0,_,_,_,_,h=>by cases h
 |f+1,ks,layer,hb,hs,h=>by
  simp only[cirF]at h
  have hn:=hb.next hok
  split at h
  ·rename_i h0
   cases h
   refine⟨fun _ hw=> ?_,fun _=>rfl⟩
   have cl: ∀k,Way es (okC es xs) (s:Int) k->k∈ks:=fun k hk=>by
    have ends: ∀k,k=(s:Int)\/k∈ks-> ∀e∈es,e.f=k->okC es xs e=true->e.t∈ks:=fun k hk=>by
     rcases hb.done k hk with⟨p,hp,_⟩ |h1
     ·rw[h0]at hp;cases hp
     ·exact h1
    induction hk with
    |one e he ho hf=>exact ends _ (.inl rfl) e he hf ho
    |step e _ he ho ih=>exact ends _ (.inr ih) e he rfl ho
   exact hs (cl _ hw)
  ·have h3:=J0t (es:=es) (ok:=okC es xs) (s:=(s:Int)) layer (ks,[]) hs rfl
   split at h
   ·rename_i p hp
    cases h
    have hm:=List.mem_of_find?_eq_some hp
    have he:=List.find?_some hp
    simp only[dE]at he
    have hne:=K0n (es:=es) (ok:=okC es xs) layer (ks,[]) (fun q hq=>by cases hq) p hm
    refine⟨fun e=>absurd e hne,fun hw=>absurd ?_ hw⟩
    obtain⟨_,n2⟩:=J0a (es:=es) (ok:=okC es xs) layer (ks,[])
    rcases n2 p hm with hq |⟨p',hp',x,hx,ho,e⟩
    ·cases hq
    ·obtain⟨hx1,hx2⟩:=z0Q hx
     rw[<-he,e]
     rw[e]at he
     rcases hb.lay p' hp' with h1 |h1
     ·have:=Way.one (s:=(s:Int)) x hx1 ho (hx2.trans h1)
      rw[he]at this⊢;exact this
     ·have:=Way.step (s:=(s:Int)) x (by rw[hx2];exact h1) hx1 ho
      rw[he]at this⊢;exact this
   ·rename_i hp
    cases hh:hitC es (okC es xs) (s:Int) layer with
    |some b=>rw[hh]at h3;simp only at h3;rw[h3]at hp;cases hp
    |none=>
     rw[hh]at h3
     exact q1L hok f _ _ hn h3.1 h
theorem J0b(hok: ∀e∈es,eOK (N:Int) e=true){s:Nat}{r:List Int}(hne:atC xs s≠enabled es (s:Int))(h:cirR es xs s=some r):r=[]↔ ¬Way es (okC es xs) (s:Int) (s:Int):=by
 unfold cirR at h
 rw[if_neg hne]at h
 refine q1L hok 100 _ _ ⟨fun p hp=> .inl ?_,fun k hk=>(by cases hk),fun k hk=> .inl ⟨([(s:Int)],(s:Int)),by simp, ?_⟩⟩ (by simp) h
 ·simp only[mC,List.not_mem_nil,or_false]at hp
  subst hp;rfl
 ·rcases hk with hk |hk
  ·exact hk.symm
  ·cases hk
def Wider(es:List E3)(N:Nat)(xs ys:List (Bool×List Int)):Prop:= ∀k,k<N->atC ys k=atC xs k\/atC ys k=enabled es (k:Int)
theorem q1M(hok: ∀e∈es,eOK (N:Int) e=true)(hw:Wider es N xs ys){s:Nat}(hs:s<N)(hne:atC ys s≠enabled es (s:Int)): ∀k,Way es (okC es ys) (s:Int) k->Way es (okC es xs) (s:Int) k/\ ∀t:Nat,k=(t:Int)->atC ys t≠enabled es (t:Int):=by
 have edge: ∀e∈es,okC es ys e=true->(∀f:Nat,e.f=(f:Int)->atC ys f≠enabled es (f:Int))->okC es xs e=true/\ ∀t:Nat,e.t=(t:Int)->atC ys t≠enabled es (t:Int):=by
  intro e he ho hf
  obtain⟨⟨g1,g2,_,_⟩,g5,g6⟩:=q0w (hok e he)
  obtain⟨ff,hff⟩:=iZ g1
  obtain⟨tt,htt⟩:=iZ g5
  rw[q1R hff htt]at ho⊢
  simp only[bA,dE,bN,dN]at ho⊢
  have h1:atC ys ff=atC xs ff:=(hw ff (by omega)).resolve_right (hf ff hff)
  have h2:atC ys tt=atC xs tt:=(hw tt (by omega)).resolve_right ho.2
  refine⟨⟨by rw[<-h1];exact ho.1,by rw[<-h2];exact ho.2⟩,fun t ht=> ?_⟩
  have:t=tt:=by omega
  subst this;exact ho.2
 intro k hk
 induction hk with
 |one e he ho hf=>
  obtain⟨h1,h2⟩:=edge e he ho fun f hf'=>by
   have:f=s:=by omega
   subst this;exact hne
  exact⟨.one e he h1 hf,h2⟩
 |step e _ he ho ih=>
  obtain⟨h1,h2⟩:=edge e he ho ih.2
  exact⟨.step e ih.1 he h1,h2⟩
theorem q1N(hN:N<=60)(hok: ∀e∈es,eOK (N:Int) e=true)(hw:Wider es N xs ys){s:Nat}(hs:s<N)(h:cirR es xs s=some []):cirR es ys s=some []:=by
 by_cases hne:atC ys s=enabled es (s:Int)
 ·unfold cirR;rw[if_pos hne]
 ·obtain⟨r,hr⟩:=k0q (N:=N) hN hok (xs:=ys) hs
  have h1:atC ys s=atC xs s:=(hw s hs).resolve_right hne
  have hx:=(J0b hok (xs:=xs) (by rw[<-h1];exact hne) h).1 rfl
  have hy:r=[]:=(J0b hok hne hr).2 fun hwy=>hx (q1M hok hw hs hne _ hwy).1
  rw[hr,hy]
end
end Go.Proofs.Ythjjbkiejkhjfaa.R
