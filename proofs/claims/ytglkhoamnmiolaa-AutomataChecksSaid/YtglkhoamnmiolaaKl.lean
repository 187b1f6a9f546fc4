/- - -/
import Derived.Test.YtglkhoamnmiolaaKk
set_option linter.all false
namespace Go.Proofs.Ytglkhoamnmiolaa.R
open Go Go.Proofs.Ytglkhoamnmiolaa.Vm
theorem Y0U{n0 sz:Nat}{H:Heap}{F F':Nat->Prop}{us:List U}{c:C}(h:OutR n0 H F sz us c)(h0:us=[]->c= .nilSlice)(hF: ∀i,F i->F' i)(hn: ∀i,n0<=i->i<H.next->F' i):UC H F' (.sl (!us.isEmpty) us) [c]:=by
 by_cases he:us=[]
 ·subst he;rw[h0 rfl];exact .inl ⟨rfl,rfl,rfl⟩
 ·have hb:(!us.isEmpty)=true:=by cases us;exact absurd rfl he;rfl
  rcases h with⟨h1,_⟩ |⟨i,o,cs,h1,h2,h3,h4,h5,h6,h7⟩
  ·exact absurd h1 he
  ·exact .inr ⟨hb,i,o,cs,sz,by rw[h1],hn i h2 h3,h5,h6,h7.mono ⟨hF,fun _ _=>rfl⟩⟩
section
variable{lim:Nat}{M:YM}(hM:CallsY lim M.ext){H0:Heap}{F:Nat->Prop}{b a:Nat}{b1 b2 b3:Bool}{l:List Int}{es:List E4}{xs:List (Bool×List Int)}{c1 c2 c3:C}
variable(A:AV lim H0 F b a l es xs b1 b2 b3 c1 c2 c3)
structure J6 (H0:Heap) (F:Nat->Prop) (b jl m m0:Nat) (H:Heap) (G:Nat->Prop) (us:List Int) (c:C):Prop where
 f:Fr1 H0 F b jl m m0 H G
 tab:H.get (jl+2)=some (.cells 1 [c])
 row:OInts H (jl+1) c us
 ap: ∀i o n,c= .slice i o n->i≠jl+2/\ ¬G i
 nz:c≠ .nilSlice
include hM A
end
end Go.Proofs.Ytglkhoamnmiolaa.R
