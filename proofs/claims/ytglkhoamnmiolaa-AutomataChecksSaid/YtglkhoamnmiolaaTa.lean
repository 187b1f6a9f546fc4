/- - -/
import Derived.Test.YtglkhoamnmiolaaKa
set_option linter.all false
namespace Go.Proofs.Ytglkhoamnmiolaa.R
open Go Go.Proofs.Ytglkhoamnmiolaa.Vm
inductive Rch (nx:Nat->List Nat):Nat->Nat->Prop
 |refl (u:Nat):Rch nx u u
 |step {u w v:Nat}:w∈nx u->Rch nx w v->Rch nx u v
theorem Rch.trans{nx:Nat->List Nat}{u v w:Nat}(h:Rch nx u v)(k:Rch nx v w):Rch nx u w:=by
 induction h with
 |refl=>exact k
 |step h1 _ ih=>exact .step h1 (ih k)
theorem Rch.one{nx:Nat->List Nat}{u v:Nat}(h:v∈nx u):Rch nx u v:= .step h (.refl v)
structure TS where
 num:Nat->Nat
 low:Nat->Nat
 of:Nat->Int
 st:List Nat
 c:Nat
 f:Nat
def TS.enter(σ:TS)(v:Nat):TS:=⟨fun w=>if w=v then σ.c+1 else σ.num w,fun w=>if w=v then σ.c+1 else σ.low w,σ.of,v::σ.st,σ.c+1,σ.f⟩
def TS.setLow(σ:TS)(v x:Nat):TS:={σ with low:=fun w=>if w=v then x else σ.low w}
def popTo(v:Nat)(x:Int):List Nat->(Nat->Int)->List Nat×(Nat->Int)
 | [],of=>([],of)
 |w::st,of=>if w=v then(st,fun u=>if u=w then x else of u)else popTo v x st (fun u=>if u=w then x else of u)
def TS.close(σ:TS)(v:Nat):TS:={σ with st:=(popTo v σ.f σ.st σ.of).1,of:=(popTo v σ.f σ.st σ.of).2,f:=σ.f+1}
def visL(rec:TS->Nat->Option TS)(v:Nat):List Nat->TS->Option TS
 | [],σ=>some σ
 |w::ws,σ=>if σ.num w=0 then(rec σ w).bind fun σ1=>visL rec v ws (σ1.setLow v (min (σ1.low v) (σ1.low w)))
  else if σ.of w<0 then visL rec v ws (σ.setLow v (min (σ.low v) (σ.num w)))else visL rec v ws σ
def vis(nx:Nat->List Nat):Nat->TS->Nat->Option TS
 | 0=>fun _ _=>none
 |k+1=>fun σ v=>(visL (vis nx k) v (nx v) (σ.enter v)).bind fun σ'=>if σ'.low v<σ'.num v then some σ' else if v∈σ'.st then some (σ'.close v)else none
theorem W0V{v:Nat}{x:Int}{old:List Nat}: ∀{new:List Nat} {of:Nat->Int},v∉new->popTo v x (new++v::old) of=(old,fun u=>if u∈new\/u=v then x else of u)
 | [],of,_=>by simp[popTo]
 |w::new,of,h=>by
  have hw:w≠v:=fun e=>h (by simp[e])
  rw[List.cons_append,popTo,if_neg hw,W0V (fun h1=>h (by simp[h1]))]
  congr 1
  funext u
  by_cases h1:u∈new\/u=v
  ·have h2:u∈w::new\/u=v:=h1.imp (fun h=>by simp[h]) id
   rw[if_pos h1,if_pos h2]
  ·rw[if_neg h1]
   by_cases e:u=w
   ·subst e;simp
   ·rw[if_neg e,if_neg]
    rintro(h2 |h2)
    ·rcases mC.1 h2 with h3 |h3
     ·exact e h3
     ·exact h1 (.inl h3)
    ·exact h1 (.inr h2)
structure TInv (nx:Nat->List Nat) (n:Nat) (σ:TS) (G:List Nat):Prop where
 lt: ∀x,σ.num x≠0->x<n
 dec:σ.st.Pairwise fun x y=>σ.num y<σ.num x
 mem: ∀x,x∈σ.st↔σ.num x≠0/\σ.of x<0
 cle: ∀x,σ.num x<=σ.c
 gst: ∀g∈G,g∈σ.st
 back: ∀x∈σ.st,∃g∈G,σ.num g<=σ.num x/\Rch nx x g
 fwd: ∀g∈G,∀x∈σ.st,σ.num g<=σ.num x->Rch nx g x
 blk: ∀x,σ.num x≠0->x∉G-> ∀y∈nx x,σ.num y≠0
 cls: ∀x,0<=σ.of x->σ.num x≠0/\σ.of x<σ.f/\ ∀y∈nx x,0<=σ.of y
 scc: ∀x y,0<=σ.of x->0<=σ.of y->(σ.of x=σ.of y↔Rch nx x y/\Rch nx y x)
structure TPost (nx:Nat->List Nat) (n:Nat) (σ σ':TS) (v:Nat) (G:List Nat):Prop where
 inv:TInv nx n σ' G
 num: ∀x,σ.num x≠0->σ'.num x=σ.num x
 ofs: ∀x,0<=σ.of x->σ'.of x=σ.of x
 low: ∀x,σ.num x≠0->σ'.low x=σ.low x
 new: ∃new,σ'.st=new++σ.st/\ ∀x∈new,σ.num x=0
 numv:σ.c<σ'.num v
 lowv:v∈σ'.st-> ∃y∈σ.st,σ.num y=σ'.low v/\Rch nx v y
 lowc:v∉σ'.st->σ.c<σ'.low v
 cross: ∀x∈σ'.st,σ.num x=0-> ∀y∈nx x,y∈σ.st->σ'.low v<=σ.num y
 c:σ.c<=σ'.c
structure TLoop (nx:Nat->List Nat) (n:Nat) (σ0 σ:TS) (v:Nat) (G done:List Nat):Prop where
 inv:TInv nx n σ (v::G)
 num: ∀x,σ0.num x≠0->σ.num x=σ0.num x
 ofs: ∀x,0<=σ0.of x->σ.of x=σ0.of x
 low: ∀x,σ0.num x≠0->σ.low x=σ0.low x
 new: ∃new,σ.st=new++v::σ0.st/\ ∀x∈new,σ0.num x=0/\x≠v
 numv:σ.num v=σ0.c+1
 le:σ.low v<=σ.num v
 ex: ∃y,(y=v\/y∈σ0.st)/\σ.num y=σ.low v/\Rch nx v y
 cross: ∀x∈σ.st,σ0.num x=0->x≠v-> ∀y∈nx x,y∈σ0.st->σ.low v<=σ.num y
 dn: ∀y∈done,σ.num y≠0/\(y∈σ0.st->σ.low v<=σ.num y)
 sub: ∀y∈done,y∈nx v
section
variable{nx:Nat->List Nat}{n:Nat}
def rest(n:Nat)(σ:TS):Nat:=((List.range n).filter fun w=>decide (σ.num w=0)).length
theorem J0q{σ σ':TS}(h: ∀x,σ.num x≠0->σ'.num x≠0){v:Nat}(hv:v<n)(h0:σ.num v=0)(h1:σ'.num v≠0):rest n σ'<rest n σ:=by
 unfold rest
 have key: ∀l:List Nat,v∈l->(l.filter fun w=>decide (σ'.num w=0)).length<(l.filter fun w=>decide (σ.num w=0)).length:=by
  have le: ∀l:List Nat,(l.filter fun w=>decide (σ'.num w=0)).length<=(l.filter fun w=>decide (σ.num w=0)).length:=by
   intro l
   induction l with
   |nil=>exact nR _
   |cons a l ih=>
    simp only[List.filter_cons]
    by_cases ha:σ.num a=0
    ·rw[if_pos (show decide (σ.num a=0)=true by simpa using ha)]
     split<;>simp only[List.length_cons]<;>omega
    ·rw[if_neg (show¬decide (σ.num a=0)=true by simpa using ha),if_neg (show¬decide (σ'.num a=0)=true by simpa using h a ha)]
     exact ih
  intro l
  induction l with
  |nil=>intro h;cases h
  |cons a l ih=>
   intro hm
   have:=le l
   simp only[List.filter_cons]
   by_cases e:a=v
   ·subst e
    rw[if_neg (show¬decide (σ'.num a=0)=true by simpa using h1),if_pos (show decide (σ.num a=0)=true by simpa using h0),List.length_cons];omega
   ·have hv':=ih (by rcases mC.1 hm with h |h;exact absurd h.symm e;exact h)
    by_cases ha:σ.num a=0
    ·rw[if_pos (show decide (σ.num a=0)=true by simpa using ha)]
     split<;>simp only[List.length_cons]<;>omega
    ·rw[if_neg (show¬decide (σ.num a=0)=true by simpa using ha),if_neg (show¬decide (σ'.num a=0)=true by simpa using h a ha)]
     exact hv'
 exact key _ (List.mem_range.2 hv)
theorem J0r{σ:TS}{new old:List Nat}{v:Nat}(h:(new++v::old).Pairwise fun x y=>σ.num y<σ.num x):(∀x∈new,σ.num v<σ.num x)/\(∀y∈old,σ.num y<σ.num v):=by
 rw[List.pairwise_append]at h
 obtain⟨_,h2,h3⟩:=h
 rw[List.pairwise_cons]at h2
 exact⟨fun x hx=>h3 x hx v (by simp),h2.1⟩
theorem q1N{σ:TS}{new old:List Nat}{v y:Nat}(h:(new++v::old).Pairwise fun x y=>σ.num y<σ.num x)(hy:y∈new++v::old)(hl:σ.num y<σ.num v):y∈old:=by
 obtain⟨h1,_⟩:=J0r h
 rcases mA.1 hy with g |g
 ·have:=h1 y g;omega
 ·rcases mC.1 g with g |g
  ·subst g;omega
  ·exact g
theorem X0O{σ:TS}{G:List Nat}{v:Nat}(h:TInv nx n σ G)(hv:v<n)(h0:σ.num v=0)(hg: ∀g∈G,Rch nx g v)(hof:σ.of v<0):TLoop nx n σ (σ.enter v) v G []:=by
 have hne: ∀x,σ.num x≠0->x≠v:=fun x hx e=>hx (e▸h0)
 have hst: ∀x∈σ.st,x≠v:=fun x hx=>hne x ((h.mem x).1 hx).1
 have en: ∀x,x≠v->(σ.enter v).num x=σ.num x:=fun x hx=>if_neg hx
 have ev:(σ.enter v).num v=σ.c+1:=if_pos rfl
 refine⟨⟨fun x hx=> ?_, ?_,fun x=> ?_,fun x=> ?_,fun g hg'=> ?_,fun x hx=> ?_,fun g hg' x hx hle=> ?_,fun x hx hxG y hy=> ?_,fun x hx=> ?_,h.scc⟩,fun x hx=>en x (hne x hx),fun x _=>rfl,fun x hx=>if_neg (hne x hx),⟨[],rfl,fun x hx=>by cases hx⟩,ev, ?_,⟨v, .inl rfl, ?_, .refl v⟩,fun x hx hx0 hxv=> ?_,fun y hy=>(by cases hy),fun y hy=>(by cases hy)⟩
 ·by_cases e:x=v
  ·rw[e];exact hv
  ·exact h.lt x (by rwa [en x e]at hx)
 ·show(v::σ.st).Pairwise _
  rw[List.pairwise_cons]
  refine⟨fun y hy=> ?_,h.dec.imp_of_mem fun{x y} hx hy hlt=> ?_⟩
  ·rw[en y (hst y hy),ev];have:=h.cle y;omega
  ·rw[en x (hst x hx),en y (hst y hy)];exact hlt
 ·show x∈v::σ.st↔_/\σ.of x<0
  rw[mC,h.mem x]
  by_cases e:x=v
  ·subst e;simp[ev,hof]
  ·simp[e,en x e]
 ·by_cases e:x=v
  ·subst e;rw[ev];exact nR _
  ·rw[en x e];exact Nat.le_succ_of_le (h.cle x)
 ·rcases mC.1 hg' with e |e
  ·subst e;exact List.mem_cons_self
  ·exact List.mem_cons_of_mem _ (h.gst g e)
 ·rcases mC.1 hx with e |e
  ·subst e;exact⟨x,List.mem_cons_self,nR _, .refl x⟩
  ·obtain⟨g,g1,g2,g3⟩:=h.back x e
   refine⟨g,List.mem_cons_of_mem _ g1, ?_,g3⟩
   rw[en g (hst g (h.gst g g1)),en x (hst x e)];exact g2
 ·rcases mC.1 hg' with e |e
  ·subst e
   rcases mC.1 hx with e2 |e2
   ·subst e2;exact .refl x
   ·rw[ev,en x (hst x e2)]at hle;have:=h.cle x;omega
  ·rcases mC.1 hx with e2 |e2
   ·subst e2;exact hg g e
   ·rw[en g (hst g (h.gst g e)),en x (hst x e2)]at hle
    exact h.fwd g e x e2 hle
 ·have hxv:x≠v:=fun e=>hxG (by simp[e])
  have hxG':x∉G:=fun e=>hxG (by simp[e])
  rw[en x hxv]at hx
  have:=h.blk x hx hxG' y hy
  rw[en y (hne y this)];exact this
 ·obtain⟨c1,c2,c3⟩:=h.cls x hx
  exact⟨by rw[en x (hne x c1)];exact c1,c2,c3⟩
 ·show(if v=v then σ.c+1 else σ.low v)<=_
  rw[if_pos rfl,ev];exact nR _
 ·rw[ev];exact(if_pos rfl).symm
 ·rcases mC.1 hx with e |e
  ·exact absurd e hxv
  ·exact absurd hx0 ((h.mem x).1 e).1
end
end Go.Proofs.Ytglkhoamnmiolaa.R
