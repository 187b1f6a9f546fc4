/- - -/
import Derived.Test.YthjjbkiejkhjfaaWa
import Derived.Test.YthjjbkiejkhjfaaWx
set_option linter.all false
namespace Go.Proofs.Ythjjbkiejkhjfaa.R
open Go Go.Proofs.Ythjjbkiejkhjfaa.Vm
theorem Z1G:HasOpen MM:=fun us=>(if_pos rfl:yExt2 61 us=openY us)
theorem J1r{u:U}(h:TyN (.int .i64) u): ∃n,u=uI n:=by
 simp only[TyN]at h
 obtain⟨n,rfl,_⟩:=h
 exact⟨n,rfl⟩
theorem k1o{α:Type}{g:α->U}: ∀{es:List U},(∀e∈es,∃x,e=g x)-> ∃l:List α,es=l.map g
 | [],_=>⟨[],rfl⟩
 |e::es,h=>by
  obtain⟨x,rfl⟩:=h e (by simp)
  obtain⟨l,rfl⟩:=k1o (es:=es) fun e he=>h e (by simp[he])
  exact⟨x::l,rfl⟩
theorem k1p{u:U}(h:TyN (.sl [.int .i64]) u): ∃b l,u=uIs b l:=by
 rw[TyN]at h
 obtain⟨b,es,rfl,_,_,h⟩:=h
 obtain⟨l,rfl⟩:=k1o (g:=uI) (es:=es) fun e he=>by
  have:=h e he
  rw[TyR]at this
  exact J1r this
 exact⟨b,l,rfl⟩
theorem Q1K{u:U}(h:TyN (.sl [.int .i64, .int .i64, .int .i64]) u): ∃b l,u=uEs b l:=by
 rw[TyN]at h
 obtain⟨b,es,rfl,_,_,h⟩:=h
 obtain⟨l,rfl⟩:=k1o (g:=uE) (es:=es) fun e he=>by
  have:=h e he
  simp only[TyR,TyNs,TyN]at this
  obtain⟨_,rfl,_,_,rfl,⟨n1,rfl,_⟩,_,_,rfl,⟨n2,rfl,_⟩,_,_,rfl,⟨n3,rfl,_⟩,rfl⟩:=this
  exact⟨⟨n1,n2,n3⟩,rfl⟩
 exact⟨b,l,rfl⟩
theorem Q1L{u:U}(h:TyP (.struct [.int .i64, .sl [.int .i64], .sl [.int .i64, .int .i64, .int .i64]]) u): ∃n b1 l b2 es,u= .st [uI n,uIs b1 l,uEs b2 es]:=by
 obtain⟨us,rfl,h⟩:=h
 simp only[TyNs]at h
 obtain⟨_,_,rfl,h1,_,_,rfl,h2,_,_,rfl,h3,rfl⟩:=h
 obtain⟨n,rfl⟩:=J1r h1
 obtain⟨b1,l,rfl⟩:=k1p h2
 obtain⟨b2,es,rfl⟩:=Q1K h3
 exact⟨n,b1,l,b2,es,rfl⟩
end Go.Proofs.Ythjjbkiejkhjfaa.R
