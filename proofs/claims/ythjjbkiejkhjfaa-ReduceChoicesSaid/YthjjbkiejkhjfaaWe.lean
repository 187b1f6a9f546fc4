/- A part of the proof. -/
import Derived.Test.YthjjbkiejkhjfaaWd
namespace Go.Proofs.Ythjjbkiejkhjfaa.R
open Go Go.Proofs.Ythjjbkiejkhjfaa.Vm
set_option linter.unusedVariables false
set_option linter.unusedSimpArgs false
variable{M:YM}
def upd(p:Nat→Bool)(x:Nat)(v:Bool):Nat→Bool:=fun j=>if j=x then v else p j
inductive Reach (l:List Int) (es:List E3):Nat→Prop
 |init {s:Nat}:(s:Int)∈l→Reach l es s
 |step {e:E3} {s t:Nat}:e∈es→e.f=(s:Int)→e.t=(t:Int)→Reach l es s→Reach l es t
def cnt(p:Nat→Bool):Nat→Nat
 | 0=>0
 |n+1=>cnt p n+(if p n=true then 0 else 1)
section
variable{N:Nat}{b1 b2:Bool}{l:List Int}{es:List E3}{u1:U}
end
end Go.Proofs.Ythjjbkiejkhjfaa.R
