/- - -/
import Derived.Test.YthjjbkiejkhjfaaWd
set_option linter.all false
namespace Go.Proofs.Ythjjbkiejkhjfaa.R
open Go Go.Proofs.Ythjjbkiejkhjfaa.Vm
variable{M:YM}
def uB(N:Nat)(p:Nat->Bool):Sx:=⟨true,1,(List.range N).map fun s=> .c (.bool (p s))⟩
def upd(p:Nat->Bool)(x:Nat)(v:Bool):Nat->Bool:=fun j=>if j=x then v else p j
theorem J1b(N:Nat)(p:Nat->Bool):(uB N p).es.length=N:=by simp[uB]
theorem W0N{N x:Nat}{p:Nat->Bool}(h:x<N):Sx.has (uB N p) 1 (x:Int)=true:=by
 simp only[Sx.has,J1b]
 simp[uB,h]
theorem W0O{N x:Nat}{p:Nat->Bool}(h:x<N):((uB N p).es)[((x:Int)).toNat]? =some (.c (.bool (p x))):=by
 simp[uB,h]
theorem j1G{N x:Nat}{p:Nat->Bool}{v:Bool}(h:x<N):Sx.put (uB N p) 1 ((x:Int)).toNat 0 (.c (.bool v))=some (uB N (upd p x v)):=by
 have h1:Sx.put (uB N p) 1 ((x:Int)).toNat 0 (.c (.bool v))=some {uB N p with es:=(uB N p).es.set x (.c (.bool v))}:=by
  unfold Sx.put
  rw[if_pos ⟨rfl,rfl⟩,if_pos ⟨rfl,by rw[J1b,iN];exact h⟩,iN]
 rw[h1]
 congr 1
 unfold uB
 simp only[Sx.mk.injEq,true_and]
 refine List.ext_getElem? fun j=> ?_
 rw[List.getElem?_set]
 by_cases hj:j<N
 ·by_cases hjx:x=j
  ·subst hjx;simp[hj,upd]
  ·have: ¬j=x:=fun e=>hjx e.symm
   simp[hjx,this,hj,upd]
 ·have: ¬x=j:=by omega
  simp[this,hj]
inductive Reach (l:List Int) (es:List E3):Nat->Prop
 |init {s:Nat}:(s:Int)∈l->Reach l es s
 |step {e:E3} {s t:Nat}:e∈es->e.f=(s:Int)->e.t=(t:Int)->Reach l es s->Reach l es t
def cnt(p:Nat->Bool):Nat->Nat
 | 0=>0
 |n+1=>cnt p n+(if p n=true then 0 else 1)
section
variable{N:Nat}{b1 b2:Bool}{l:List Int}{es:List E3}{u1:U}
end
end Go.Proofs.Ythjjbkiejkhjfaa.R
