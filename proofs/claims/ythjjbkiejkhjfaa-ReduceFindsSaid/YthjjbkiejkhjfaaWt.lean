/- - -/
import Derived.Test.YthjjbkiejkhjfaaWs
import Derived.Test.YthjjbkiejkhjfaaWz
set_option linter.all false
namespace Go.Proofs.Ythjjbkiejkhjfaa.R
open Go Go.Proofs.Ythjjbkiejkhjfaa.Vm
section
variable{es:List E3}{xs ys:List (Bool×List Int)}{D:Nat->Nat->Bool}{N s:Nat}{v:Nat->Bool}
section
variable(h: ∀k,atC xs k=atC ys k)
include h
theorem K0k:condB D xs s=condB D ys s:=by funext x;unfold condB;rw[h]
theorem Q0u: ∀f ks layer,befF es D xs s f ks layer=befF es D ys s f ks layer
 | 0,_,_=>rfl
 |f+1,ks,layer=>by simp only[befF,K0k h,h s,Q0u f]
theorem q1J:okC es xs=okC es ys:=by funext x;unfold okC;rw[h,h]
theorem Y0R: ∀f ks layer,cirF es xs s f ks layer=cirF es ys s f ks layer
 | 0,_,_=>rfl
 |f+1,ks,layer=>by simp only[cirF,q1J h,Y0R f]
theorem Y0S:befR es D xs s=befR es D ys s:=by unfold befR;rw[h s,Q0u h]
theorem J0X:fault1 es N xs v s=fault1 es N ys v s:=by unfold fault1;rw[h s,Y0S h]
theorem J0Y: ∀d s,faultA es N xs v d s=faultA es N ys v d s
 | 0,_=>rfl
 |d+1,s=>by simp only[faultA,J0X h,J0Y d]
end
theorem J0Z(p:Nat->Bool): ∀d k,(picks p d k).Pairwise (· < ·)/\ ∀x∈picks p d k,(k:Int)<=x
 | 0,_=>⟨.nil,fun x h=>by cases h⟩
 |d+1,k=>by
  obtain⟨i1,i2⟩:=J0Z p d (k+1)
  unfold picks
  split
  ·refine⟨.cons (fun x hx=>by have:=i2 x hx;omega) i1,fun x hx=> ?_⟩
   rcases mC.1 hx with rfl |hx
   ·exact Int.le_refl _
   ·have:=i2 x hx;omega
  ·refine⟨i1,fun x hx=> ?_⟩
   have:=i2 x hx
   omega
theorem Q1M{l:List Int}(h:l.Pairwise (· < ·)): ∀d k,1<=k->k+d<=l.length->asc l d k=true
 | 0,_,_,_=>rfl
 |d+1,k,h1,h2=>by
  unfold asc
  rw[Q1M h d (k+1) (by omega) (by omega),Bool.and_true,dE,z1B (show k - 1<l.length by omega),z1B (show k<l.length by omega)]
  exact List.pairwise_iff_getElem.1 h _ _ _ _ (by omega)
theorem Z0a(x:Int):ascL (enabled es x)=true:=by
 unfold ascL
 by_cases h:(enabled es x).length=0
 ·rw[h];rfl
 ·exact Q1M (l:=enabled es x) (J0Z _ _ _).1 _ _ (nR _) (by omega)
end
section
variable{M:YM}{N:Nat}{n:Int}{b1 b2 b3 b4:Bool}{l lab:List Int}{es:List E3}{xs:List (Bool×List Int)}{u1 g1:U}{v:Nat->Bool}
theorem q1K(b:Bool)(o:Option (Int×Int×List Int)): ∃f,U.exact (uFb b o) ks6=some f/\f 0=uI (o.getD (0,0,[])).1/\f 1=uI (o.getD (0,0,[])).2.1/\f 2=uIs b (o.getD (0,0,[])).2.2:=by
 cases o<;>exact⟨_,rfl,rfl,rfl,rfl⟩
end
noncomputable def M3:YM:=⟨yExt3⟩
theorem Z1H:HasBC M3:=⟨fun us=>show yExt3 81 us=pickY BefP us from rfl,fun us=>show yExt3 54 us=pickY CirP us from rfl⟩
end Go.Proofs.Ythjjbkiejkhjfaa.R
