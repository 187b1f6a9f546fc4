/- - -/
import Derived.Test.YthjjbkiejkhjfaaWa
import Derived.Test.YthjjbkiejkhjfaaWx
set_option linter.all false
namespace Go.Proofs.Ythjjbkiejkhjfaa.R
open Go Go.Proofs.Ythjjbkiejkhjfaa.Vm
theorem Z1D:HasOpen MM:=fun us=>(if_pos rfl:yExt2 61 us=openY us)
theorem J1o{u:U}(h:TyN (.int .i64) u): ∃n,u=uI n:=by
 simp only[TyN]at h
 obtain⟨n,rfl,_⟩:=h
 exact⟨n,rfl⟩
theorem k1m{α:Type}{g:α->U}: ∀{es:List U},(∀e∈es,∃x,e=g x)-> ∃l:List α,es=l.map g
 | [],_=>⟨[],rfl⟩
 |e::es,h=>by
  obtain⟨x,rfl⟩:=h e (by simp)
  obtain⟨l,rfl⟩:=k1m (es:=es) fun e he=>h e (by simp[he])
  exact⟨x::l,rfl⟩
theorem k1n{u:U}(h:TyN (.sl [.int .i64]) u): ∃b l,u=uIs b l:=by
 rw[TyN]at h
 obtain⟨b,es,rfl,_,_,h⟩:=h
 obtain⟨l,rfl⟩:=k1m (g:=uI) (es:=es) fun e he=>by
  have:=h e he
  rw[TyR]at this
  exact J1o this
 exact⟨b,l,rfl⟩
theorem Q1H{u:U}(h:TyN (.sl [.int .i64, .int .i64, .int .i64]) u): ∃b l,u=uEs b l:=by
 rw[TyN]at h
 obtain⟨b,es,rfl,_,_,h⟩:=h
 obtain⟨l,rfl⟩:=k1m (g:=uE) (es:=es) fun e he=>by
  have:=h e he
  simp only[TyR,TyNs,TyN]at this
  obtain⟨_,rfl,_,_,rfl,⟨n1,rfl,_⟩,_,_,rfl,⟨n2,rfl,_⟩,_,_,rfl,⟨n3,rfl,_⟩,rfl⟩:=this
  exact⟨⟨n1,n2,n3⟩,rfl⟩
 exact⟨b,l,rfl⟩
theorem Q1I{u:U}(h:TyP (.struct [.int .i64, .sl [.int .i64], .sl [.int .i64, .int .i64, .int .i64]]) u): ∃n b1 l b2 es,u= .st [uI n,uIs b1 l,uEs b2 es]:=by
 obtain⟨us,rfl,h⟩:=h
 simp only[TyNs]at h
 obtain⟨_,_,rfl,h1,_,_,rfl,h2,_,_,rfl,h3,rfl⟩:=h
 obtain⟨n,rfl⟩:=J1o h1
 obtain⟨b1,l,rfl⟩:=k1n h2
 obtain⟨b2,es,rfl⟩:=Q1H h3
 exact⟨n,b1,l,b2,es,rfl⟩
end Go.Proofs.Ythjjbkiejkhjfaa.R
