/- - -/
import Derived.Test.YtglkhoamnmiolaaKe
import Derived.Test.YtglkhoamnmiolaaKd
set_option linter.all false
namespace Go.Proofs.Ytglkhoamnmiolaa.R
open Go Go.Proofs.Ytglkhoamnmiolaa.Vm
structure FrB (b:Nat) (H0 H:Heap):Prop where
 next:b<=H.next
 old: ∀i,i<b->H.get i=H0.get i
theorem J0F{b:Nat}{H0 H:Heap}{F:Nat->Prop}{u:U}{xs:List C}(h:UC H0 F u xs)(f:FrB b H0 H)(hF: ∀i,F i->i<b):UC H F u xs:=h.mono ⟨fun _ h=>h,fun i hi=>f.old i (hF i hi)⟩
theorem q0g{b n y:Nat}(h:y<n):C.elem 1 (.slice b 0 n) (y:Int)=some (b,y):=by
 simp only[C.elem]
 rw[if_pos ⟨by omega,by omega⟩];simp
def prs(s:Nat):List (Bool×List Int)->List (Int×Int)
 | []=>[]
 |r::rs=>r.2.map (fun y=>((s:Int),y))++prs (s+1) rs
theorem w0B: ∀(s:Nat) (rows:List (Bool×List Int)),(prs s rows).length=(rows.map fun r=>r.2.length).sum
 |_,[]=>rfl
 |s,r::rs=>by simp[prs,w0B (s+1) rs]
theorem Q0P: ∀(s:Nat) (rows:List (Bool×List Int)) (u y:Int),(u,y)∈prs s rows↔ ∃k r,rows[k]? =some r/\u=((s+k:Nat):Int)/\y∈r.2
 |s,[],u,y=>by simp[prs]
 |s,r::rs,u,y=>by
  rw[prs,mA,Q0P (s+1) rs]
  constructor
  ·rintro(h |⟨k,r',h1,h2,h3⟩)
   ·obtain⟨z,h1,h2⟩:=List.mem_map.1 h
    cases h2
    exact⟨0,r,rfl,rfl,h1⟩
   ·exact⟨k+1,r',by simpa using h1,by rw[h2];congr 1;omega,h3⟩
  ·rintro⟨k,r',h1,h2,h3⟩
   cases k with
   |zero=>simp at h1;subst h1;exact .inl (List.mem_map.2 ⟨y,h3,by rw[h2];rfl⟩)
   |succ k=>exact .inr ⟨k,r',by simpa using h1,by rw[h2];congr 1;omega,h3⟩
def revT(rows:List (Bool×List Int)):List (Bool×List Int):=tabU (tabD rows.length (prs 0 rows))
theorem k1J{n:Nat}{rows:List (Bool×List Int)}(h:Table n rows):Rev rows (revT rows):=by
 obtain⟨h1,h2,h3⟩:=h
 refine⟨by simp[revT,tabU,j0e],fun r hr=> ?_,fun u v=> ?_⟩
 ·obtain⟨l,hl,rfl⟩:=List.mem_map.1 hr
  obtain⟨j,hj,rfl⟩:=List.mem_map.1 hl
  refine⟨fun y hy=> ?_, ?_⟩
  ·obtain⟨p,hp,rfl⟩:=List.mem_map.1 hy
   obtain⟨k,r',g1,g2,_⟩:=(Q0P 0 rows p.1 p.2).1 (List.mem_filter.1 hp).1
   have:=(gE.1 g1).1
   rw[g2];omega
  ·have:=j0n (prs 0 rows) j
   rw[w0B]at this
   show(((prs 0 rows).filter _).map _).length<=_
   omega
 ·have key:nxR (revT rows) u v↔v<rows.length/\((u:Int),(v:Int))∈prs 0 rows:=by
   unfold nxR revT tabU
   rw[lG,List.getElem?_map]
   by_cases hv:v<rows.length
   ·rw[j0E hv]
    simp only[Option.map_some,Option.getD_some,List.mem_map,List.mem_filter,dE]
    constructor
    ·rintro⟨⟨a,b⟩,⟨g1,g2⟩,g3⟩
     simp only at g2 g3
     subst g2 g3
     exact⟨hv,g1⟩
    ·rintro⟨_,g⟩;exact⟨_,⟨g,rfl⟩,rfl⟩
   ·rw[List.getElem?_eq_none (by rw[j0e];omega)]
    simp[hv]
  rw[key,Q0P]
  constructor
  ·rintro⟨_,k,r,g1,g2,g3⟩
   have:u=k:=by omega
   subst this
   rw[lG,g1];exact g3
  ·intro hm
   by_cases hu:u<rows.length
   ·have e:rows[u]? =some rows[u]:=List.getElem?_eq_getElem hu
    rw[lG,e]at hm
    have:=h2 rows[u] (lM hu) _ hm
    exact⟨by omega,u,rows[u],e,by omega,hm⟩
   ·rw[lG,List.getElem?_eq_none (by omega)]at hm
    simp at hm
section
variable{M:Mach}{H0:Heap}{F:Nat->Prop}{b n:Nat}{bb:Bool}{rows:List (Bool×List Int)}{c:C}
theorem Y0k(hl:M.lim<=b)(hF: ∀i,F i->i<b)(hn:n<=1000000)(ht:Table n rows)(hc:UC H0 F (uLs bb rows) [c]){i:Nat}{r:Bool×List Int}(hi:rows[i]? =some r)(hr2:r.2.length<=1000000):
  ∀(e k:Nat) (ps:List (Int×Int)) (H:Heap),k+e=r.2.length->ps.length+e<=1000000->FrB b H0 H->TabO H b (tabD n ps)->
  ∃H',f82_2 M c (.slice b 0 n) (i:Int) (k:Int) H=f82_1 M c (.slice b 0 n) ((i+1:Nat):Int) H'/\FrB b H0 H'/\TabO H' b (tabD n (ps++(r.2.drop k).map fun y=>((i:Int),y))):=by
 have hil:i<rows.length:=(gE.1 hi).1
 have hin:i<n:=by have:=ht.1;omega
 intro e
 induction e with
 |zero=>
  intro k ps H hk hp f t
  obtain⟨i1,o1,c2,g1,g2,g3,g4⟩:=rdL (J0F hc f hF) hi
  refine⟨H, ?_,f,by rw[dL (by omega)];simpa using t⟩
  rw[W0q]
  simp only[g1,oS,g3,Q1s g4,show¬((k:Int)<((r.2.length:Nat):Int)) by omega,dF,bF,iF,q0b (show i<=1000000000 by omega)]
 |succ e ih=>
  intro k ps H hk hp f t
  have hlt:k<r.2.length:=by omega
  obtain⟨i1,o1,c2,g1,g2,g3,g4⟩:=rdL (J0F hc f hF) hi
  obtain⟨y0,y1⟩:=ht.2.1 r (List.mem_of_getElem? hi) r.2[k] (lM hlt)
  obtain⟨y,hy⟩:=iZ y0
  have hget:r.2[k]? =some (y:Int):=by rw[q0a hlt,hy]
  rw[hy]at y1
  have hyn:y<n:=by omega
  obtain⟨i2,o2,k1,k2,k3⟩:=rdN g4 hget
  have hrl:=j0n ps y
  obtain⟨x,q1,q2,c',H1,q3,q4,H2,q5,q6,q7,q8⟩:=t.push hl (j0E hyn) (i:Int) (by omega)
  rw[<-k0h hyn]at q6
  have f2:FrB b H0 H2:=⟨nT f.next q8,fun j hj=>by rw[q7 j hj];exact f.old j hj⟩
  have s1:seenC H1 i1 o1 .c (.c c2)=true:=seen_same (by rw[show Heap.ld H1 i1 o1=Heap.ld H i1 o1 from by unfold Heap.ld;rw[q4 _ (by have:=hF _ g2;omega)]];exact g3)
  have s2:seenC H1 i2 o2 (.int .i64) (.c (.int .i64 (y:Int)))=true:=z1A (by rw[show Heap.ld H1 i2 o2=Heap.ld H i2 o2 from by unfold Heap.ld;rw[q4 _ (by have:=hF _ k2;omega)]];exact k3)
  obtain⟨H',z1,z2,z3⟩:=ih (k+1) (ps++[((i:Int),(y:Int))]) H2 (by omega) (by simp;omega) f2 q6
  refine⟨H', ?_,z2, ?_⟩
  ·rw[W0q]
   simp only[g1,oS,g3,Q1s g4,show((k:Int)<((r.2.length:Nat):Int)) by omega,dY,iT,k1,k3,asI_int,q0g hyn,q1,q2,q3,s1,s2,q5,q0b (show k<=1000000000 by omega),z1]
  ·rw[List.drop_eq_getElem_cons hlt,List.map_cons,hy]
   rw[List.append_assoc]at z3
   exact z3
theorem Y0l(hl:M.lim<=b)(hF: ∀i,F i->i<b)(hn:n<=1000000)(ht:Table n rows)(hc:UC H0 F (uLs bb rows) [c]):
  ∀(e i:Nat) (H:Heap) (ps:List (Int×Int)),i+e=rows.length->ps.length+(prs i (rows.drop i)).length<=1000000->FrB b H0 H->TabO H b (tabD n ps)->
  ∃H',f82_1 M c (.slice b 0 n) (i:Int) H=some (.c (.slice b 0 n),H')/\FrB b H0 H'/\TabO H' b (tabD n (ps++prs i (rows.drop i))):=by
 intro e
 induction e with
 |zero=>
  intro i H ps hi hp f t
  refine⟨H, ?_,f,by rw[dL (by omega)];simpa[prs]using t⟩
  rw[W0p]
  simp only[w1M (J0F hc f hF),oS,show¬((i:Int)<((rows.length:Nat):Int)) by omega,dF,bF,iF]
 |succ e ih=>
  intro i H ps hi hp f t
  have hlt:i<rows.length:=by omega
  have hg:rows[i]? =some rows[i]:=q0a hlt
  rw[List.drop_eq_getElem_cons hlt,prs]at hp⊢
  rw[List.length_append,List.length_map]at hp
  obtain⟨H1,g1,g2,g3⟩:=Y0k hl hF hn ht hc hg (by omega) rows[i].2.length 0 ps H (by omega) (by omega) f t
  rw[List.drop_zero]at g3
  obtain⟨H',k1,k2,k3⟩:=ih (i+1) H1 _ (by omega) (by rw[List.length_append,List.length_map];omega) g2 g3
  refine⟨H', ?_,k2,by rw[List.append_assoc]at k3;exact k3⟩
  rw[W0p]
  rw[show((0:Nat):Int)=0 from rfl]at g1
  simp only[w1M (J0F hc f hF),oS,show((i:Int)<((rows.length:Nat):Int)) by omega,dY,iT,g1,k1]
theorem w1q{H:Heap}(hl:M.lim<=H.next)(hF: ∀i,F i->i<H.next)(hn:n<=1000000)(ht:Table n rows)(hc:UC H F (uLs bb rows) [c]):
  ∃H',f82 M c H=some (.c (.slice H.next 0 n),H')/\FrB H.next H H'/\TabO H' H.next (tabD n (prs 0 rows)):=by
 have t0:=TabO.new H n
 rw[<-w0n]at t0
 obtain⟨H',k1,k2,k3⟩:=Y0l (b:=H.next) (n:=n) hl hF hn ht hc rows.length 0 _ [] (by omega) (by rw[List.drop_zero,w0B];simpa using ht.2.2) ⟨Nat.le_succ _,fun i hi=>q0f hi⟩ t0
 refine⟨H', ?_,k2,by simpa using k3⟩
 rw[J1d]
 simp only[w1M hc,oS,ht.1,iN]
 rw[if_pos ⟨by omega,by omega⟩]
 exact k1
end
end Go.Proofs.Ytglkhoamnmiolaa.R
