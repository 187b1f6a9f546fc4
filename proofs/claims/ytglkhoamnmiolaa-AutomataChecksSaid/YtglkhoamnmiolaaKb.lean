/- - -/
import Derived.Test.YtglkhoamnmiolaaKa
set_option linter.all false
namespace Go.Proofs.Ytglkhoamnmiolaa.R
open Go Go.Proofs.Ytglkhoamnmiolaa.Vm
structure Au where
 init:Nat->Prop
 step:Nat->Nat->Nat->Prop
 m:Nat
 acc:Nat->Nat->Prop
def adv(acc:Nat->Nat->Bool)(m t:Nat):Nat->Nat->Nat
 | 0,k=>k
 |d+1,k=>if k<m/\acc k t=true then adv acc m t d (k+1)else k
def lev(acc:Nat->Nat->Bool)(m t lv:Nat):Nat:=adv acc m t (m+1) (if lv=m then 0 else lv)
section
variable{acc:Nat->Nat->Bool}{m t:Nat}
end
end Go.Proofs.Ytglkhoamnmiolaa.R
