/- - -/
import Derived.Test.YtglkhoamnmiolaaWa
set_option linter.all false
namespace Go.Proofs.Ytglkhoamnmiolaa.R
open Go Go.Proofs.Ytglkhoamnmiolaa.Vm
variable{M:YM}
theorem Q0l(l:List Int):scals (l.map uI)=true:=by
 induction l with
 |nil=>rfl
 |cons x l ih=>simp only[List.map_cons,scals,ih,Bool.and_true];rfl
theorem Z0N{sz:Nat}{xs:List U}(h: ∀x∈xs,x.size=sz)(hn:xs.length<=1000000):Sx.app (⟨true,sz,[]⟩:Sx) sz xs=some ⟨true,sz,xs⟩:=by
 unfold Sx.app
 rw[if_pos]
 ·simp
 ·refine⟨.inr rfl,List.all_eq_true.2 fun x hx=>by simp[h x hx], ?_⟩
  show _<=_
  simp;omega
theorem Y0t{b:Bool}{l:List Int}(hn:l.length<=1000000):y38 M (uIs b l)=some (.sl ⟨true,1,l.map uI⟩):=by
 rw[Q1C]
 simp only[uIs,U.asL,oS]
 rw[Z0N (by intro x hx;obtain⟨n,_,rfl⟩:=List.mem_map.1 hx;rfl) (by simpa using hn)]
 simp only[oS,Q0l,iT]
def cp(xs:List (Bool×List Int)):List (Bool×List Int):=xs.map fun x=>(true,x.2)
theorem j1W{b:Bool}{xs:List (Bool×List Int)}(hn:xs.length<=1000000)(hx: ∀x∈xs,x.2.length<=1000000): ∀(d k:Nat) (out:Sx),k+d=xs.length->out.es=(cp (xs.take k)).map (fun x=>uIs x.1 x.2)->(out.b=false->out.es=[])->(out.b=true->out.sz=1)->
  ∃b',y39_1 M (uLs b xs) (k:Int) out=some (.sl ⟨b',if b'=true then 1 else out.sz,(cp xs).map fun x=>uIs x.1 x.2⟩)/\(b'=false->xs=[]\/out.b=false):=by
 intro d
 induction d with
 |zero=>
  intro k out hk ho hb hz
  rw[K0E]
  simp only[len_uLs,oS,show¬((k:Int)<xs.length) by omega,dF,bF,iF]
  rw[List.take_of_length_le (by omega)]at ho
  obtain⟨ob,osz,oes⟩:=out
  simp only at ho hb hz⊢
  subst ho
  cases ob with
  |true=>exact⟨true,by simp[hz rfl],fun h=>by cases h⟩
  |false=>exact⟨false,by simp,fun _=> .inr rfl⟩
 |succ d ih=>
  intro k out hk ho hb hz
  have hlt:k<xs.length:=by omega
  rw[K0E]
  simp only[len_uLs,oS,show((k:Int)<xs.length) by omega,dY,iT,q0W (q0a hlt),cell_uIs,Y0t (hx _ (lM hlt)),asSl_sl,q0b (show k<=1000000000 by omega)]
  have happ:Sx.app out 1 [Sx.fz ⟨true,1,xs[k].2.map uI⟩]=some ⟨true,1,out.es++[uIs true xs[k].2]⟩:=by
   unfold Sx.app
   have hlen:out.es.length=k:=by rw[ho];simp[cp];omega
   rw[if_pos]
   ·simp[Sx.fz,uIs]
   ·refine⟨?_,rfl, ?_⟩
    ·cases hob:out.b with
     |false=>exact .inl rfl
     |true=>exact .inr (hz hob)
    ·show _<=_
     rw[hlen];simp;omega
  rw[happ]
  simp only[oS]
  obtain⟨b',h1,h2⟩:=ih (k+1) ⟨true,1,out.es++[uIs true xs[k].2]⟩ (by omega) (by
   simp only[ho,List.take_succ_eq_append_getElem hlt,cp,List.map_append,List.map_cons,List.map_nil]) (fun h=>by cases h) (fun _=>rfl)
  cases b' with
  |true=>exact⟨true,by simpa using h1,fun h=>by cases h⟩
  |false=>
        rcases h2 rfl with h |h
        ·rw[h]at hlt;simp at hlt
        ·cases h
theorem Q1Y{b:Bool}{xs:List (Bool×List Int)}(hn:xs.length<=1000000)(hx: ∀x∈xs,x.2.length<=1000000): ∃s,y39 M (uLs b xs)=some (.sl s)/\ ∃b',s.fz=uLs b' (cp xs):=by
 obtain⟨b',h,_⟩:=j1W (M:=M) (b:=b) hn hx xs.length 0 ⟨false,0,[]⟩ (by omega) (by simp[cp]) (fun _=>rfl) (fun h=>by cases h)
 rw[Q1D]
 exact⟨_,h,b',rfl⟩
theorem Q1Z{b1 b2 b3:Bool}{a:Int}{l:List Int}{es:List E4}{xs:List (Bool×List Int)}(hl:l.length<=1000000)(he:es.length<=1000000)(hn:xs.length<=1000000)(hx: ∀x∈xs,x.2.length<=1000000):
  ∃b',y11 M a (uIs b1 l) (uEs b2 es) (uLs b3 xs)=some (.val (.st [uI a,uIs true l,uEs true es,uLs b' (cp xs)])):=by
 obtain⟨s,h1,b',h2⟩:=Q1Y (M:=M) (b:=b3) hn hx
 rw[Q1w]
 simp only[Y0t hl,oS,asSl_sl,uEs,U.asL]
 rw[Z0N (by intro x hx;obtain⟨n,_,rfl⟩:=List.mem_map.1 hx;rfl) (by simpa using he)]
 simp only[oS,h1,asSl_sl,h2]
 exact⟨b',rfl⟩
def at0(l:List Int)(i:Nat):Int:=l.getD i 0
def letr(l r:List Int)(i:Nat):Int:=if i<l.length then at0 l i else at0 r ((i - l.length) % r.length)
theorem j1X(a b:Nat):Int.tmod (a:Int) (b:Int)=((a % b:Nat):Int):=by
 rw[Int.tmod_eq_emod_of_nonneg (by omega)];simp
def ltr(n:Int):Bool:=btw n 0 4095
def wErr(l r:List Int):Int:=if r.length=0 then 1 else if 60<l.length+r.length then 2 else if(l++r).all ltr=true then 0 else 3
end Go.Proofs.Ytglkhoamnmiolaa.R
