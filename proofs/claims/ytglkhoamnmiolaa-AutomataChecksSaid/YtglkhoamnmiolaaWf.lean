/- - -/
import Derived.Test.YtglkhoamnmiolaaWe
set_option linter.all false
namespace Go.Proofs.Ytglkhoamnmiolaa.R
open Go Go.Proofs.Ytglkhoamnmiolaa.Vm
variable{M:YM}
section
variable{a:Int}{b1 b2 b3 b4 b5 b6 b7:Bool}{l:List Int}{es:List E4}{xs:List (Bool×List Int)}{w0 w1 r0 r1:List Int}
variable{all:Sx}(ha1:all.es=(r0++r1).map uI)(ha2:all.es≠[]->all.sz=1)
include ha1 ha2
omit ha1 ha2
theorem w1P{a1 a2:U}(hn:xs.length<=1000000): ∀(d k:Nat),k+d=xs.length->y9_1 M a a1 a2 (uLs b3 xs) (k:Int)=some (.val (.c (.bool ((xs.drop k).all fun x=>decide (x.2.length<=40))))):=by
 intro d
 induction d with
 |zero=>
  intro k hk
  rw[Y0p,dL (by omega)]
  simp only[len_uLs,oS,show¬((k:Int)<xs.length) by omega,dF,bF,iF,List.all_nil]
 |succ d ih=>
  intro k hk
  have hlt:k<xs.length:=by omega
  rw[Y0p,List.drop_eq_getElem_cons hlt]
  simp only[len_uLs,oS,show((k:Int)<xs.length) by omega,dY,iT,q0W (q0a hlt),cell_uIs,len_uIs,q0b (show k<=1000000000 by omega),ih (k+1) (by omega),List.all_cons]
  by_cases h:xs[k].2.length<=40
  ·have: ¬((40:Int)<(xs[k].2.length:Int)):=by omega
   simp[-List.getElem_cons_drop,this,h]
  ·have:((40:Int)<(xs[k].2.length:Int)):=by omega
   simp[-List.getElem_cons_drop,this,h]
def few(a:Int)(l:List Int)(es:List E4)(xs:List (Bool×List Int)):Bool:=
 !(decide (30<a)&&decide (a<=300))&&decide (es.length<=60)&&decide (l.length<=40)&&decide (xs.length<=12)&&xs.all fun x=>decide (x.2.length<=40)
theorem Z1q:y9 M a (uIs b1 l) (uEs b2 es) (uLs b3 xs)=some (.val (.c (.bool (few a l es xs)))):=by
 have h9:xs.length<=12->y9_1 M a (uIs b1 l) (uEs b2 es) (uLs b3 xs) 0=some (.val (.c (.bool (xs.all fun x=>decide (x.2.length<=40))))):=by
  intro h
  have:=w1P (M:=M) (a:=a) (b3:=b3) (a1:=uIs b1 l) (a2:=uEs b2 es) (xs:=xs) (by omega) xs.length 0 (by omega)
  rw[List.drop_zero]at this
  exact this
 rw[Z1l]
 simp only[len_uEs,len_uIs,len_uLs,oS]
 unfold few
 have e1:decide ((60:Int)<(es.length:Int))= !decide (es.length<=60):=by rw[<-decide_not,decide_eq_decide];omega
 have e2:decide ((40:Int)<(l.length:Int))= !decide (l.length<=40):=by rw[<-decide_not,decide_eq_decide];omega
 have e3:decide ((12:Int)<(xs.length:Int))= !decide (xs.length<=12):=by rw[<-decide_not,decide_eq_decide];omega
 rw[e1,e2,e3]
 cases h1:decide (30<a)<;>cases h2:decide (a<=300)<;>cases h3:decide (es.length<=60)<;>cases h4:decide (l.length<=40)<;>cases h5:decide (xs.length<=12)<;>first |rfl |exact h9 (of_decide_eq_true h5)
theorem J0W(xs:List (Bool×List Int)):(cp xs).length=xs.length:=by simp[cp]
theorem Y0Y(a:Int): ∀xs:List (Bool×List Int),lErr a (cp xs)=lErr a xs
 | []=>rfl
 |x::xs=>by
  have:=Y0Y a xs
  simp only[cp]at this
  simp only[cp,List.map_cons,lErr,this]
theorem Y0Z:aErr a l es (cp xs)=aErr a l es xs:=by
 unfold aErr
 rw[Y0Y,J0W]
theorem f2(a:Int)(b1 b2 b3:Bool)(l:List Int)(es:List E4)(xs:List (Bool×List Int)): ∃f,U.exact (.st [uI a,uIs b1 l,uEs b2 es,uLs b3 xs]) ks2=some f/\f 0=uI a/\f 1=uIs b1 l/\f 2=uEs b2 es/\f 3=uLs b3 xs:=⟨_,rfl,rfl,rfl,rfl,rfl⟩
theorem f1(b1 b2:Bool)(l r:List Int): ∃f,U.exact (.st [uIs b1 l,uIs b2 r]) ks1=some f/\f 0=uIs b1 l/\f 1=uIs b2 r:=⟨_,rfl,rfl,rfl⟩
end
end Go.Proofs.Ytglkhoamnmiolaa.R
