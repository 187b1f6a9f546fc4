/- - -/
import Derived.Test.YtglkhoamnmiolaaKl
set_option linter.all false
namespace Go.Proofs.Ytglkhoamnmiolaa.R
open Go Go.Proofs.Ytglkhoamnmiolaa.Vm
def asc:Option Int->List Int->Prop
 |_,[]=>True
 |p,x::l=>(∀y,p=some y->y<x)/\asc (some x) l
theorem code_zero{n:Int}{p:Option Int}{x:Int}:code n p x=0↔(0<=x/\x<n)/\ ∀y,p=some y->y<x:=by
 unfold code
 by_cases hb:btw x 0 (n - 1)=true
 ·have h1:0<=x/\x<n:=by simp only[btw,dE]at hb;omega
  rw[if_pos hb]
  cases p with
  |none=>simp[h1]
  |some y=>
   by_cases hy:x<=y
   ·simp only[Option.any_some,hy,dY,iT]
    exact⟨fun h=>(by cases h),fun h=>by have:=h.2 y rfl;omega⟩
   ·simp only[Option.any_some,hy,dF,bF,iF,true_iff]
    exact⟨h1,fun z hz=>by cases hz;omega⟩
 ·rw[if_neg hb]
  refine⟨fun h=>(by cases h),fun h=>absurd ?_ hb⟩
  simp only[btw,dE];omega
theorem sErr_zero{n:Int}: ∀{l:List Int} {p:Option Int},sErr n p l=0↔(∀x∈l,0<=x/\x<n)/\asc p l
 | [],p=>by simp[sErr,asc]
 |x::l,p=>by
  simp only[sErr,asc,mC,forall_eq_or_imp]
  by_cases h:code n p x=0
  ·rw[if_pos h,sErr_zero]
   obtain⟨h1,h2⟩:=code_zero.1 h
   exact⟨fun⟨a,b⟩=>⟨⟨h1,a⟩,h2,b⟩,fun⟨⟨_,a⟩,_,b⟩=>⟨a,b⟩⟩
  ·rw[if_neg h]
   exact⟨fun e=>absurd e h,fun⟨⟨a,_⟩,b,_⟩=>absurd (code_zero.2 ⟨a,b⟩) h⟩
theorem J0G{n:Int}: ∀{xs:List (Bool×List Int)},lErr n xs=0↔ ∀x∈xs,sErr n none x.2=0
 | []=>by simp[lErr]
 |x::xs=>by
  simp only[lErr,mC,forall_eq_or_imp]
  by_cases h:sErr n none x.2=0
  ·rw[if_pos h,J0G];simp[h]
  ·rw[if_neg h];simp[h]
theorem aErr_zero{a:Int}{l:List Int}{es:List E4}{xs:List (Bool×List Int)}:aErr a l es xs=0↔btw a 0 300=true/\es.length<=6000/\xs.length<=8/\es.all (eOK a)=true/\sErr a none l=0/\ ∀x∈xs,sErr a none x.2=0:=by
 unfold aErr
 by_cases h1:btw a 0 300=true
 ·rw[if_pos h1]
  by_cases h2:6000<es.length\/8<xs.length
  ·rw[if_pos h2]
   exact⟨fun h=>(by cases h),fun h=>by omega⟩
  ·rw[if_neg h2]
   by_cases h3:sErr a none l=0
   ·rw[if_pos h3]
    by_cases h4:es.all (eOK a)=true
    ·rw[if_pos h4,J0G]
     exact⟨fun h=>⟨h1,by omega,by omega,h4,h3,h⟩,fun h=>h.2.2.2.2.2⟩
    ·rw[if_neg h4]
     exact⟨fun h=>(by cases h),fun h=>absurd h.2.2.2.1 h4⟩
   ·rw[if_neg h3]
    exact⟨fun h=>absurd h h3,fun h=>absurd h.2.2.2.2.1 h3⟩
 ·rw[if_neg h1]
  exact⟨fun h=>(by cases h),fun h=>absurd h.1 h1⟩
section
variable{lim:Nat}{M:YM}(hM:CallsY lim M.ext){H:Heap}{F:Nat->Prop}{a:Int}{b1 b2 b3:Bool}{l:List Int}{es:List E4}{xs:List (Bool×List Int)}{c1 c2 c3:C}
include hM
end
end Go.Proofs.Ytglkhoamnmiolaa.R
