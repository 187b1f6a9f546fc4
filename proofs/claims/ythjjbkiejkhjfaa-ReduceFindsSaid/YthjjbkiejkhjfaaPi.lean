/- - -/
import Derived.Test.YthjjbkiejkhjfaaPh
import Derived.Test.YthjjbkiejkhjfaaWu
set_option linter.all false
namespace Go.Proofs.Ythjjbkiejkhjfaa.R
open Go Go.Proofs.Ythjjbkiejkhjfaa.Vm
section
variable{N s:Nat}{es:List E3}{xs ys:List (Bool×List Int)}{D:Nat->Nat->Bool}{v:Nat->Bool}
theorem k1V(h:atC xs s=atC ys s):condB D xs s=condB D ys s:=by funext x;unfold condB;rw[h]
theorem j1q(h:atC xs s=atC ys s): ∀f ks layer,befF es D xs s f ks layer=befF es D ys s f ks layer
 | 0,_,_=>rfl
 |f+1,ks,layer=>by simp only[befF,k1V h,h,j1q h f]
theorem Z0k(h:atC xs s=atC ys s):fault1 es N xs v s=fault1 es N ys v s:=by
 unfold fault1 befR
 rw[h,j1q h]
theorem w0f(h:atC xs s=enabled es (s:Int)):fault1 es N xs v s=none:=by
 unfold fault1
 rw[h]
 simp
def one1(s:Nat)(a:Int):List (Bool×List Int):=xsU ((List.replicate (s+1) []).set s [a])
theorem J0l{L:List (List Int)}{r:List Int}(h:s<L.length):atC (xsU (L.set s r)) s=r:=by
 rw[k0V,lG,List.getElem?_set,if_pos rfl,if_pos h]
 rfl
theorem j1r{L:List (List Int)}{r:List Int}{k:Nat}(h:s≠k):atC (xsU (L.set s r)) k=atC (xsU L) k:=by
 rw[k0V,k0V,lG,lG,List.getElem?_set,if_neg h]
theorem w0r(a:Int):atC (one1 s a) s=[a]:=J0l (by simp)
def goodA(es:List E3)(N:Nat)(v:Nat->Bool)(s:Nat)(a:Int):Bool:= !(fault1 es N (one1 s a) v s).isSome
def pick(es:List E3)(N:Nat)(v:Nat->Bool)(s:Nat):List Int:=
 match(enabled es (s:Int)).find? (goodA es N v s)with
 |some a=>[a]
 |none=>enabled es (s:Int)
theorem j1s{L:List (List Int)}(hs:s<L.length): ∀r,tryL es N v s L r=match r.find? (goodA es N v s)with
  |some a=>L.set s [a]
  |none=>L
 | []=>rfl
 |a::r=>by
  have h:fault1 es N (xsU (L.set s [a])) v s=fault1 es N (one1 s a) v s:=Z0k ((J0l hs).trans (w0r a).symm)
  unfold tryL
  rw[h,List.find?_cons]
  unfold goodA
  cases hf:(fault1 es N (one1 s a) v s).isSome with
  |false=>simp
  |true=>
   simp only[Bool.true_eq_false,iF,Bool.not_true]
   exact j1s hs r
theorem j1t{L:List (List Int)}(hs:s<L.length):tryL es N v s (L.set s (enabled es (s:Int))) (enabled es (s:Int))=L.set s (pick es N v s):=by
 rw[j1s (by simpa using hs)]
 unfold pick
 cases(enabled es (s:Int)).find? (goodA es N v s)with
 |none=>rfl
 |some a=>simp only[List.set_set]
theorem J0m: ∀(d s:Nat) (L:List (List Int)),L.length=N->s+d=N->(loop1 es N v d s L).length=N/\(∀k,k<s->(loop1 es N v d s L)[k]? =L[k]?)/\ ∀k,s<=k->k<N->(loop1 es N v d s L)[k]? =some (pick es N v k)
 | 0,s,L,hl,hs=>⟨hl,fun _ _=>rfl,fun k h1 h2=>by omega⟩
 |d+1,s,L,hl,hs=>by
  unfold loop1
  rw[j1t (by omega)]
  obtain⟨i1,i2,i3⟩:=J0m d (s+1) (L.set s (pick es N v s)) (by simpa using hl) (by omega)
  refine⟨i1,fun k hk=> ?_,fun k h1 h2=> ?_⟩
  ·rw[i2 k (by omega),List.getElem?_set,if_neg (by omega)]
  ·by_cases h:k=s
   ·subst h
    rw[i2 k (by omega),List.getElem?_set,if_pos rfl,if_pos (by omega)]
   ·exact i3 k (by omega) h2
theorem Wider.refl(xs:List (Bool×List Int)):Wider es N xs xs:=fun _ _=> .inl rfl
theorem Wider.trans{zs:List (Bool×List Int)}(h:Wider es N xs ys)(k:Wider es N ys zs):Wider es N xs zs:=fun i hi=>by
 rcases k i hi with h1 |h1
 ·rw[h1];exact h i hi
 ·exact .inr h1
theorem J0n(hN:N<=60)(hok: ∀e∈es,eOK (N:Int) e=true): ∀(d s:Nat) (L:List (List Int)),L.length=N->s+d=N->(∀k,k<s->cirR es (xsU L) k=some [])->
  (loop2 es d s L).length=N/\Wider es N (xsU L) (xsU (loop2 es d s L))/\ ∀k,k<N->cirR es (xsU (loop2 es d s L)) k=some []
 | 0,s,L,hl,hs,h=>⟨hl, .refl _,fun k hk=>h k (by omega)⟩
 |d+1,s,L,hl,hs,h=>by
  unfold loop2
  by_cases hc:cirR es (xsU L) s=some []
  ·rw[if_pos hc]
   refine J0n hN hok d (s+1) L hl (by omega) fun k hk=> ?_
   by_cases hks:k=s
   ·subst hks;exact hc
   ·exact h k (by omega)
  ·rw[if_neg hc]
   have hw:Wider es N (xsU L) (xsU (L.set s (enabled es (s:Int)))):=fun k hk=>by
    by_cases hks:s=k
    ·subst hks;exact .inr (J0l (by omega))
    ·exact .inl (j1r hks)
   obtain⟨i1,i2,i3⟩:=J0n hN hok d (s+1) (L.set s (enabled es (s:Int))) (by simpa using hl) (by omega) fun k hk=>by
    by_cases hks:k=s
    ·subst hks
     unfold cirR
     rw[if_pos (J0l (by omega))]
    ·exact q1N hN hok hw (by omega) (h k (by omega))
   exact⟨i1,hw.trans i2,i3⟩
theorem Q0B(h: ∀s,s<N-> ∀xs,cirR es xs s=some []): ∀(d s:Nat) (L:List (List Int)),s+d=N->loop2 es d s L=L
 | 0,_,_,_=>rfl
 |d+1,s,L,hs=>by
  unfold loop2
  rw[if_pos (h s (by omega) _)]
  exact Q0B h d (s+1) L (by omega)
theorem k0Q(es:List E3)(N:Nat)(v:Nat->Bool)(s:Nat):pick es N v s=enabled es (s:Int)\/ ∃a∈enabled es (s:Int),goodA es N v s a=true/\pick es N v s=[a]:=by
 unfold pick
 cases h:(enabled es (s:Int)).find? (goodA es N v s)with
 |none=>exact .inl rfl
 |some a=>exact .inr ⟨a,List.mem_of_find?_eq_some h,List.find?_some h,rfl⟩
theorem J0o(hN:N<=60)(hok: ∀e∈es,eOK (N:Int) e=true):(found es N v).length=N/\(∀k,k<N->atC (xsU (found es N v)) k=pick es N v k\/atC (xsU (found es N v)) k=enabled es (k:Int))/\ ∀k,k<N->cirR es (xsU (found es N v)) k=some []:=by
 obtain⟨i1,_,i3⟩:=J0m (es:=es) (N:=N) (v:=v) N 0 (List.replicate N []) (by simp) (by omega)
 obtain⟨j1,j2,j3⟩:=J0n hN hok N 0 (loop1 es N v N 0 (List.replicate N [])) i1 (by omega) (fun k hk=>by omega)
 refine⟨j1,fun k hk=> ?_,j3⟩
 have h1:atC (xsU (loop1 es N v N 0 (List.replicate N []))) k=pick es N v k:=by
  rw[k0V,lG,i3 k (by omega) hk];rfl
 have:=j2 k hk
 rw[h1]at this
 exact this
theorem q1g(hN:N<=60)(hok: ∀e∈es,eOK (N:Int) e=true):cErr (N:Int) es (xsU (found es N v))=0:=by
 obtain⟨f1,f2,_⟩:=J0o (v:=v) hN hok
 unfold cErr
 rw[J0F,f1,if_pos rfl]
 have: ∀d s,s+d=N->formErr es (xsU (found es N v)) d s=0:=by
  intro d
  induction d with
  |zero=>intro s _;rfl
  |succ d ih=>
   intro s hs
   have h1:setErr es s ((xsU (found es N v)).getD s (false,[])).2=0:=by
    show setErr es s (atC (xsU (found es N v)) s)=0
    have whole:setErr es s (enabled es (s:Int))=0:=(k0a es s _).2.2 (Z0a _) (by simp)
    rcases f2 s (by omega)with h |h
    ·rcases k0Q es N v s with h2 |⟨a,ha,_,h2⟩
     ·rw[h,h2];exact whole
     ·rw[h,h2]
      exact(k0a es s _).2.2 rfl (by simp[ha])
    ·rw[h];exact whole
   simp only[formErr,h1,iT]
   exact ih (s+1) (by omega)
 exact this N 0 (by omega)
theorem K0F(hN:N<=60)(hok: ∀e∈es,eOK (N:Int) e=true):faultAll es N (xsU (found es N v)) v=none:=by
 obtain⟨f1,f2,f3⟩:=J0o (v:=v) hN hok
 have hA: ∀d s,s+d=N->faultA es N (xsU (found es N v)) v d s=none:=by
  intro d
  induction d with
  |zero=>intro s _;rfl
  |succ d ih=>
   intro s hs
   have h1:fault1 es N (xsU (found es N v)) v s=none:=by
    rcases f2 s (by omega)with h |h
    ·rcases k0Q es N v s with h2 |⟨a,_,hg,h2⟩
     ·exact w0f (h.trans h2)
     ·rw[Z0k (ys:=one1 s a) (by rw[h,h2,w0r])]
      unfold goodA at hg
      simpa using hg
    ·exact w0f h
   simp only[faultA,h1,ih (s+1) (by omega)]
 have hB: ∀d s,s+d=N->faultB es (xsU (found es N v)) d s=none:=by
  intro d
  induction d with
  |zero=>intro s _;rfl
  |succ d ih=>
   intro s hs
   simp only[faultB,f3 s (by omega),ih (s+1) (by omega)]
 unfold faultAll
 rw[hA N 0 (by omega)]
 exact hB N 0 (by omega)
theorem Way.mono{ok ok':E3->Bool}{a b:Int}(h: ∀e,ok e=true->ok' e=true)(w:Way es ok a b):Way es ok' a b:=by
 induction w with
 |one e he ho hf=>exact .one e he (h e ho) hf
 |step e _ he ho ih=>exact .step e ih he (h e ho)
theorem q1h(hN:N<=60)(hok: ∀e∈es,eOK (N:Int) e=true)(hw: ∀s:Nat,s<N-> ¬Way es (fun _=>true) (s:Int) (s:Int)): ∀s,s<N-> ∀xs,cirR es xs s=some []:=fun s hs xs=>by
 by_cases hne:atC xs s=enabled es (s:Int)
 ·unfold cirR;rw[if_pos hne]
 ·obtain⟨r,hr⟩:=k0q (N:=N) hN hok (xs:=xs) hs
  have:r=[]:=(J0b hok hne hr).2 fun h=>hw s hs (h.mono fun _ _=>rfl)
  rw[hr,this]
theorem q1i(hN:N<=60)(hok: ∀e∈es,eOK (N:Int) e=true)(hw: ∀s:Nat,s<N-> ¬Way es (fun _=>true) (s:Int) (s:Int)){k:Nat}(hk:k<N):(found es N v)[k]? =some (pick es N v k):=by
 unfold found
 rw[Q0B (q1h hN hok hw) N 0 _ (by omega)]
 exact(J0m (es:=es) (N:=N) (v:=v) N 0 (List.replicate N []) (by simp) (by omega)).2.2 k (by omega) hk
theorem q1j{cond:E3->Bool}(h: ∀e∈es,cond e=false): ∀layer:List PE,bestL es cond layer none=none:=by
 have fold: ∀(p:PE) (ms:List E3),(∀x∈ms,x∈es)->ms.foldl (bestStep cond p) none=none:=by
  intro p ms
  induction ms with
  |nil=>intro _;rfl
  |cons x ms ih=>
   intro hx
   have:bestStep cond p none x=none:=by simp[bestStep,h x (hx x (by simp))]
   rw[List.foldl_cons,this]
   exact ih fun y hy=>hx y (by simp[hy])
 intro layer
 induction layer with
 |nil=>rfl
 |cons p layer ih=>
  unfold bestL
  rw[List.foldl_cons,fold p _ fun x hx=>(z0Q hx).1]
  exact ih
theorem Z0l(h: ∀e∈es,condB D xs s e=false){r:List Int}: ∀f ks layer,befF es D xs s f ks layer=some r->r=[]
 | 0,_,_,hr=>by cases hr
 |f+1,ks,layer,hr=>by
  simp only[befF,q1j h]at hr
  split at hr
  ·cases hr;rfl
  ·exact Z0l h f _ _ hr
theorem j1u(hN:N<=60)(hok: ∀e∈es,eOK (N:Int) e=true)(hs:s<N){a:Nat}(ha:(a:Int)∈enabled es (s:Int))(hv:v a=false)(hf: ∀e∈es,e.a≠(a:Int)->DD es N a e.a.toNat=false): ∃b,pick es N v s=[b]:=by
 have hg:goodA es N v s (a:Int)=true:=by
  unfold goodA
  have:fault1 es N (one1 s (a:Int)) v s=none:=by
   unfold fault1
   rw[w0r]
   rw[if_neg (by simp)]
   split
   ·rfl
   ·have hc: ∀e∈es,condB (DD es N) (one1 s (a:Int)) s e=false:=fun e he=>by
     unfold condB
     rw[w0r]
     by_cases h1:e.a=(a:Int)
     ·simp[h1]
     ·have h2:=hf e he h1
      have h3:DD es N e.a.toNat a=false:=by
       rw[j1C]at h2⊢
       rw[W0I]
       simp only[Bool.or_eq_false_iff,dN]at h2⊢
       exact⟨fun e=>h2.1 e.symm,h2.2⟩
      simp[h3]
    obtain⟨r,hr⟩:=w0Z (N:=N) hN hok (D:=DD es N) (xs:=one1 s (a:Int)) hs
    have hr0:r=[]:=by
     unfold befR at hr
     split at hr
     ·cases hr;rfl
     ·exact Z0l hc _ _ _ hr
    rw[hr,hr0]
    simp[hv]
  rw[this];rfl
 unfold pick
 cases h:(enabled es (s:Int)).find? (goodA es N v s)with
 |some b=>exact⟨b,rfl⟩
 |none=>
  rw[List.find?_eq_none]at h
  exact absurd hg (h _ ha)
theorem j1v{ok:E3->Bool}{a b:Int}(w:Way es ok a b): ∃e∈es,ok e=true/\e.f=a/\(e.t=b\/Way es ok e.t b):=by
 induction w with
 |one e he ho hf=>exact⟨e,he,ho,hf, .inl rfl⟩
 |step e _ he ho ih=>
  obtain⟨e',h1,h2,h3,h4⟩:=ih
  refine⟨e',h1,h2,h3, .inr ?_⟩
  rcases h4 with h4 |h4
  ·exact .one e he ho h4.symm
  ·exact .step e h4 he ho
theorem K0G{ok:E3->Bool}{a:Int}(w:Way es ok a a): ∃e∈es,e.f=a/\Way es ok e.t e.t:=by
 obtain⟨e,h1,h2,h3,h4⟩:=j1v w
 refine⟨e,h1,h3, ?_⟩
 rcases h4 with h4 |h4
 ·rw[h4];exact w
 ·exact .step e (by rw[h3];exact h4) h1 h2
end
end Go.Proofs.Ythjjbkiejkhjfaa.R
