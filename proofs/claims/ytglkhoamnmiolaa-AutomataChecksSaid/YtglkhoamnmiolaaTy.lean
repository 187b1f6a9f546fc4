/- - -/
import Derived.Test.YtglkhoamnmiolaaWf
import Derived.Test.YtglkhoamnmiolaaWx
set_option linter.all false
namespace Go.Proofs.Ytglkhoamnmiolaa.R
open Go Go.Proofs.Ytglkhoamnmiolaa.Vm
theorem k1L{u:U}(h:TyN (.int .i64) u): ∃n,u=uI n:=by
 simp only[TyN]at h
 obtain⟨n,rfl,_⟩:=h
 exact⟨n,rfl⟩
theorem K0w{α:Type}{g:α->U}: ∀{es:List U},(∀e∈es,∃x,e=g x)-> ∃l:List α,es=l.map g
 | [],_=>⟨[],rfl⟩
 |e::es,h=>by
  obtain⟨x,rfl⟩:=h e (by simp)
  obtain⟨l,rfl⟩:=K0w (es:=es) fun e he=>h e (by simp[he])
  exact⟨x::l,rfl⟩
theorem Y0o{u:U}(h:TyN (.sl [.int .i64]) u): ∃b l,u=uIs b l:=by
 rw[TyN]at h
 obtain⟨b,es,rfl,_,_,h⟩:=h
 obtain⟨l,rfl⟩:=K0w (g:=uI) (es:=es) fun e he=>by
  have:=h e he
  rw[TyR]at this
  exact k1L this
 exact⟨b,l,rfl⟩
theorem j1L{u:U}(h:TyN (.sl [.int .i64, .int .i64, .int .i64, .int .i64]) u): ∃b l,u=uEs b l:=by
 rw[TyN]at h
 obtain⟨b,es,rfl,_,_,h⟩:=h
 obtain⟨l,rfl⟩:=K0w (g:=uE) (es:=es) fun e he=>by
  have:=h e he
  simp only[TyR,TyNs,TyN]at this
  obtain⟨_,rfl,_,_,rfl,⟨n1,rfl,_⟩,_,_,rfl,⟨n2,rfl,_⟩,_,_,rfl,⟨n3,rfl,_⟩,_,_,rfl,⟨n4,rfl,_⟩,rfl⟩:=this
  exact⟨⟨n1,n2,n3,n4⟩,rfl⟩
 exact⟨b,l,rfl⟩
theorem j1M{u:U}(h:TyN (.sl [.sl [.int .i64]]) u): ∃b l,u=uLs b l:=by
 rw[TyN]at h
 obtain⟨b,es,rfl,_,_,h⟩:=h
 obtain⟨l,rfl⟩:=K0w (g:=fun x:Bool×List Int=>uIs x.1 x.2) (es:=es) fun e he=>by
  have:=h e he
  rw[TyR]at this
  obtain⟨b,l,rfl⟩:=Y0o this
  exact⟨(b,l),rfl⟩
 exact⟨b,l,rfl⟩
theorem w1s{u:U}(h:TyP (.struct [.int .i64, .sl [.int .i64], .sl [.int .i64, .int .i64, .int .i64, .int .i64], .sl [.sl [.int .i64]]]) u): ∃a b1 l b2 es b3 xs,u= .st [uI a,uIs b1 l,uEs b2 es,uLs b3 xs]:=by
 obtain⟨us,rfl,h⟩:=h
 simp only[TyNs]at h
 obtain⟨_,_,rfl,h1,_,_,rfl,h2,_,_,rfl,h3,_,_,rfl,h4,rfl⟩:=h
 obtain⟨a,rfl⟩:=k1L h1
 obtain⟨b1,l,rfl⟩:=Y0o h2
 obtain⟨b2,es,rfl⟩:=j1L h3
 obtain⟨b3,xs,rfl⟩:=j1M h4
 exact⟨a,b1,l,b2,es,b3,xs,rfl⟩
end Go.Proofs.Ytglkhoamnmiolaa.R
