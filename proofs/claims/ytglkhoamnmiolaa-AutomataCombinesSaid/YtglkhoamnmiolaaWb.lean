/- - -/
import Derived.Test.YtglkhoamnmiolaaWa
set_option linter.all false
namespace Go.Proofs.Ytglkhoamnmiolaa.R
open Go Go.Proofs.Ytglkhoamnmiolaa.Vm
variable{M:YM}
theorem W0B(l:List Int):scals (l.map uI)=true:=by
 induction l with
 |nil=>rfl
 |cons x l ih=>simp only[List.map_cons,scals,ih,Bool.and_true];rfl
theorem Z0g{sz:Nat}{xs:List U}(h: ∀x∈xs,x.size=sz)(hn:xs.length<=1000000):Sx.app (⟨true,sz,[]⟩:Sx) sz xs=some ⟨true,sz,xs⟩:=by
 unfold Sx.app
 rw[if_pos]
 ·simp
 ·refine⟨.inr rfl,List.all_eq_true.2 fun x hx=>by simp[h x hx], ?_⟩
  show _<=_
  simp;omega
theorem z1s{b:Bool}{l:List Int}(hn:l.length<=1000000):y38 M (uIs b l)=some (.sl ⟨true,1,l.map uI⟩):=by
 rw[w1g]
 simp only[uIs,U.asL,oS]
 rw[Z0g (by intro x hx;obtain⟨n,_,rfl⟩:=List.mem_map.1 hx;rfl) (by simpa using hn)]
 simp only[oS,W0B,iT]
def cp(xs:List (Bool×List Int)):List (Bool×List Int):=xs.map fun x=>(true,x.2)
theorem j1i{b:Bool}{xs:List (Bool×List Int)}(hn:xs.length<=1000000)(hx: ∀x∈xs,x.2.length<=1000000): ∀(d k:Nat) (out:Sx),k+d=xs.length->out.es=(cp (xs.take k)).map (fun x=>uIs x.1 x.2)->(out.b=false->out.es=[])->(out.b=true->out.sz=1)->
  ∃b',y39_1 M (uLs b xs) (k:Int) out=some (.sl ⟨b',if b'=true then 1 else out.sz,(cp xs).map fun x=>uIs x.1 x.2⟩)/\(b'=false->xs=[]\/out.b=false):=by
 intro d
 induction d with
 |zero=>
  intro k out hk ho hb hz
  rw[K0e]
  simp only[len_uLs,oS,show¬((k:Int)<xs.length) by omega,dF,bF,iF]
  rw[List.take_of_length_le (by omega)]at ho
  obtain⟨ob,osz,oes⟩:=out
  simp only at ho hb hz⊢
  subst ho
  cases ob with
  |true=>exact⟨true,by simp[hz rfl],fun h=>by cases h⟩
  |false=>exact⟨false,by simp,fun _=> .inr rfl⟩
 |succ d ih=>
  intro k out hk ho hb hz
  have hlt:k<xs.length:=by omega
  rw[K0e]
  simp only[len_uLs,oS,show((k:Int)<xs.length) by omega,dY,iT,j0U (q0a hlt),cell_uIs,z1s (hx _ (lM hlt)),asSl_sl,q0b (show k<=1000000000 by omega)]
  have happ:Sx.app out 1 [Sx.fz ⟨true,1,xs[k].2.map uI⟩]=some ⟨true,1,out.es++[uIs true xs[k].2]⟩:=by
   unfold Sx.app
   have hlen:out.es.length=k:=by rw[ho];simp[cp];omega
   rw[if_pos]
   ·simp[Sx.fz,uIs]
   ·refine⟨?_,rfl, ?_⟩
    ·cases hob:out.b with
     |false=>exact .inl rfl
     |true=>exact .inr (hz hob)
    ·show _<=_
     rw[hlen];simp;omega
  rw[happ]
  simp only[oS]
  obtain⟨b',h1,h2⟩:=ih (k+1) ⟨true,1,out.es++[uIs true xs[k].2]⟩ (by omega) (by
   simp only[ho,List.take_succ_eq_append_getElem hlt,cp,List.map_append,List.map_cons,List.map_nil]) (fun h=>by cases h) (fun _=>rfl)
  cases b' with
  |true=>exact⟨true,by simpa using h1,fun h=>by cases h⟩
  |false=>
        rcases h2 rfl with h |h
        ·rw[h]at hlt;simp at hlt
        ·cases h
theorem w1z{b:Bool}{xs:List (Bool×List Int)}(hn:xs.length<=1000000)(hx: ∀x∈xs,x.2.length<=1000000): ∃s,y39 M (uLs b xs)=some (.sl s)/\ ∃b',s.fz=uLs b' (cp xs):=by
 obtain⟨b',h,_⟩:=j1i (M:=M) (b:=b) hn hx xs.length 0 ⟨false,0,[]⟩ (by omega) (by simp[cp]) (fun _=>rfl) (fun h=>by cases h)
 rw[w1h]
 exact⟨_,h,b',rfl⟩
theorem z1t{b1 b2 b3:Bool}{a:Int}{l:List Int}{es:List E4}{xs:List (Bool×List Int)}(hl:l.length<=1000000)(he:es.length<=1000000)(hn:xs.length<=1000000)(hx: ∀x∈xs,x.2.length<=1000000):
  ∃b',y11 M a (uIs b1 l) (uEs b2 es) (uLs b3 xs)=some (.val (.st [uI a,uIs true l,uEs true es,uLs b' (cp xs)])):=by
 obtain⟨s,h1,b',h2⟩:=w1z (M:=M) (b:=b3) hn hx
 rw[k1W]
 simp only[z1s hl,oS,asSl_sl,uEs,U.asL]
 rw[Z0g (by intro x hx;obtain⟨n,_,rfl⟩:=List.mem_map.1 hx;rfl) (by simpa using he)]
 simp only[oS,h1,asSl_sl,h2]
 exact⟨b',rfl⟩
def at0(l:List Int)(i:Nat):Int:=l.getD i 0
theorem z1u{b:Bool}{l:List Int}{k:Nat}(h:k<l.length):U.idx 1 (uIs b l) (k:Int)=some (uI (at0 l k)):=by
 rw[j0e (q0a h)]
 simp[at0,h]
theorem W0C{l r:List Int}{i:Nat}:at0 (l++r) i=if i<l.length then at0 l i else at0 r (i - l.length):=by
 unfold at0
 by_cases h:i<l.length
 ·simp[h,List.getElem?_append_left h]
 ·simp[h,List.getElem?_append_right (show l.length<=i by omega)]
def letr(l r:List Int)(i:Nat):Int:=if i<l.length then at0 l i else at0 r ((i - l.length) % r.length)
theorem Q0m(a b:Nat):Int.tmod (a:Int) (b:Int)=((a % b:Nat):Int):=by
 rw[Int.tmod_eq_emod_of_nonneg (by omega)];simp
theorem z1v{b1 b2:Bool}{l r:List Int}{i:Nat}(hr:0<r.length)(hn:l.length+r.length<=1000000)(hi:i<=1000000):y42 M (uIs b1 l) (uIs b2 r) (i:Int)=some (.val (uI (letr l r i))):=by
 rw[w1j,letr]
 simp only[len_uIs,oS]
 by_cases h:i<l.length
 ·simp only[show((i:Int)<l.length) by omega,dY,iT,z1u h,oS,cell_c,asI_c,h]
 ·have hw:IntKind.wrap .i64 ((i:Int) - (l.length:Int))=((i - l.length:Nat):Int):=by rw[q0h (by omega) (by omega)];omega
  simp only[show¬((i:Int)<l.length) by omega,dF,bF,iF,show¬((r.length:Int)=0) by omega,hw,Q0m,z1u (b:=b2) (l:=r) (k:=(i - l.length) % r.length) (Nat.mod_lt _ hr),oS,cell_c,asI_c,h]
theorem k0Y{l r:List Int}{i:Nat}(hi:i<l.length+r.length):letr l r i=at0 (l++r) i:=by
 rw[letr,W0C]
 by_cases h:i<l.length
 ·simp[h]
 ·simp only[h,iF];rw[Nat.mod_eq_of_lt (by omega)]
def ltr(n:Int):Bool:=btw n 0 4095
def wErr(l r:List Int):Int:=if r.length=0 then 1 else if 60<l.length+r.length then 2 else if(l++r).all ltr=true then 0 else 3
theorem j1j{b1 b2:Bool}{l r:List Int}(hr:0<r.length)(hn:l.length+r.length<=1000000): ∀(d k:Nat),k+d=l.length+r.length->y15_1 M (uIs b1 l) (uIs b2 r) (k:Int)=some (.val (uI (if((l++r).drop k).all ltr=true then 0 else 3))):=by
 intro d
 have hw:IntKind.wrap .i64 ((l.length:Int)+(r.length:Int))=((l.length+r.length:Nat):Int):=by rw[q0h (by omega) (by omega)];simp
 induction d with
 |zero=>
  intro k hk
  rw[Z0O,dL (by simp;omega)]
  simp only[len_uIs,oS,hw,show¬((k:Int)<((l.length+r.length:Nat):Int)) by omega,dF,bF,iF,List.all_nil,iT]
 |succ d ih=>
  intro k hk
  have hlt:k<(l++r).length:=by simp;omega
  have hat:letr l r k=(l++r)[k]:=by rw[k0Y (by omega)];unfold at0;rw[lG,List.getElem?_eq_getElem hlt];rfl
  rw[Z0O,List.drop_eq_getElem_cons hlt]
  simp only[len_uIs,oS,hw,show((k:Int)<((l.length+r.length:Nat):Int)) by omega,dY,iT,z1v (b1:=b1) (b2:=b2) (l:=l) hr hn (show k<=1000000 by omega),toU_val,asI_c,W0o,asB_c,q0b (show k<=1000000000 by omega),ih (k+1) (by omega),hat,List.all_cons]
  have:btw (l++r)[k] 0 4095=ltr (l++r)[k]:=rfl
  rw[this]
  by_cases hl:ltr (l++r)[k]=true
  ·simp only[hl,Bool.not_true,bF,iF,Bool.true_and]
  ·simp only[Bool.not_eq_true]at hl;simp only[hl,Bool.not_false,iT,Bool.false_and,bF,iF]
theorem w1A{b1 b2:Bool}{l r:List Int}(hn:l.length+r.length<=1000000):y15 M (uIs b1 l) (uIs b2 r)=some (.val (uI (wErr l r))):=by
 rw[k1Y]
 have hw:IntKind.wrap .i64 ((l.length:Int)+(r.length:Int))=((l.length+r.length:Nat):Int):=by rw[q0h (by omega) (by omega)];simp
 simp only[len_uIs,oS,hw]
 unfold wErr
 by_cases h1:r.length=0
 ·simp[h1]
 ·have:=j1j (M:=M) (b1:=b1) (b2:=b2) (l:=l) (r:=r) (by omega) hn (l.length+r.length) 0 (by omega)
  rw[show((0:Nat):Int)=0 from rfl,List.drop_zero]at this
  simp only[show¬((r.length:Int)=0) by omega,dF,bF,iF,h1,this]
  by_cases h2:60<l.length+r.length
  ·have:(60:Int)<((l.length+r.length:Nat):Int):=by omega
   simp only[this,h2,dY,iT]
  ·have: ¬(60:Int)<((l.length+r.length:Nat):Int):=by omega
   simp only[this,h2,dF,bF,iF]
end Go.Proofs.Ytglkhoamnmiolaa.R
