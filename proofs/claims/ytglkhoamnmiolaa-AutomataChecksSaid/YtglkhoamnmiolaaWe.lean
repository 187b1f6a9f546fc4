/- - -/
import Derived.Test.YtglkhoamnmiolaaWd
set_option linter.all false
namespace Go.Proofs.Ytglkhoamnmiolaa.R
open Go Go.Proofs.Ytglkhoamnmiolaa.Vm
variable{M:YM}
def acc(xs:List (Bool×List Int))(r1:List Int)(k:Nat):Bool:=r1.any fun n=>decide (n∈(xs.getD k (false,[])).2)
def pAc(xs:List (Bool×List Int))(r1:List Int):Nat->Nat->Int×Int
 | 0,_=>(0,0)
 |d+1,k=>if acc xs r1 k=true then pAc xs r1 d (k+1)else(k,25)
def goE(es:List E4)(all:List Int)(m:Nat)(w0 w1:List Int)(k:Nat):Bool:=es.any (edge (at0 all k) (at0 all (if k+1<all.length then k+1 else m)) (letr w0 w1 k))
def pEd(es:List E4)(all:List Int)(m:Nat)(w0 w1:List Int)(z:Int×Int):Nat->Nat->Int×Int
 | 0,_=>z
 |d+1,k=>if goE es all m w0 w1 k=true then pEd es all m w0 w1 z d (k+1)else(k,10)
def pSt(a:Int)(all:List Int)(z:Int×Int):Nat->Nat->Int×Int
 | 0,_=>z
 |d+1,k=>if btw (at0 all k) 0 (a - 1)=true then pSt a all z d (k+1)else(k,3)
def res(p:Int×Int):YRs:=some (.tup [uI p.1,uI p.2])
def shapeBad(w0 w1 r0 r1:List Int):Bool:=decide (r0.length<w0.length\/(r0.length - w0.length) % w1.length≠0\/r1.length % w1.length≠0)
def chk(a:Int)(l:List Int)(es:List E4)(xs:List (Bool×List Int))(w0 w1 r0 r1:List Int):Int×Int:=
 if aErr a l es xs=0 then
  if wErr w0 w1=0 then
   if r1.length=0 then(0,1)
   else if 20000<r0.length+r1.length then(0,2)
   else if shapeBad w0 w1 r0 r1=true then(0,6)
   else pSt a (r0++r1) (if at0 (r0++r1) 0∈l then pEd es (r0++r1) r0.length w0 w1 (pAc xs r1 xs.length 0) (r0.length+r1.length) 0 else(0,30)) (r0.length+r1.length) 0
  else(0,wErr w0 w1)
 else(0,aErr a l es xs)
section
variable{a:Int}{b1 b2 b3 b4 b5 b6 b7:Bool}{l:List Int}{es:List E4}{xs:List (Bool×List Int)}{w0 w1 r0 r1:List Int}
end
end Go.Proofs.Ytglkhoamnmiolaa.R
