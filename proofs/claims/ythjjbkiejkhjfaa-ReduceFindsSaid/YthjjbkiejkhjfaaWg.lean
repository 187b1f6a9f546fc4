/- - -/
import Derived.Test.YthjjbkiejkhjfaaWf
set_option linter.all false
namespace Go.Proofs.Ythjjbkiejkhjfaa.R
open Go Go.Proofs.Ythjjbkiejkhjfaa.Vm
variable{M:YM}
def asc(l:List Int):Nat->Nat->Bool
 | 0,_=>true
 |d+1,k=>decide (at0 l (k - 1)<at0 l k)&&asc l d (k+1)
def ascL(l:List Int):Bool:=asc l (l.length - 1) 1
def setErr(es:List E3)(s:Nat)(l:List Int):Int:=if ascL l=true then(if(l.all fun a=>decide (a∈enabled es (s:Int)))=true then 0 else 10)else 13
def formErr(es:List E3)(xs:List (Bool×List Int)):Nat->Nat->Int
 | 0,_=>0
 |d+1,s=>if setErr es s (xs.getD s (false,[])).2=0 then formErr es xs d (s+1)else setErr es s (xs.getD s (false,[])).2
def cErr(n:Int)(es:List E3)(xs:List (Bool×List Int)):Int:=if(xs.length:Int)=n then formErr es xs xs.length 0 else 6
theorem k0a(es:List E3)(s:Nat)(l:List Int):(ascL l=false->setErr es s l=13)/\(ascL l=true->(l.all fun a=>decide (a∈enabled es (s:Int)))=false->setErr es s l=10)/\(ascL l=true->(l.all fun a=>decide (a∈enabled es (s:Int)))=true->setErr es s l=0):=by
 unfold setErr
 refine⟨fun h=>by simp[h],fun h1 h2=> ?_,fun h1 h2=> ?_⟩
 ·rw[if_pos h1,if_neg (by rw[h2];simp)]
 ·rw[if_pos h1,if_pos h2]
section
variable{N:Nat}{n:Int}{b1 b2 b3:Bool}{l:List Int}{es:List E3}{xs:List (Bool×List Int)}
theorem z1A{b:Bool}{l:List Int}{k:Nat}(h:k<l.length):U.idx 1 (uIs b l) (k:Int)=some (uI (at0 l k)):=by
 have:=Z0c (b:=b) (x:=(k:Int)) (l:=l) (by omega) (by omega)
 rwa [iN]at this
theorem K1O{s:Nat}(h:s<xs.length):xs.getD s (false,[])=xs[s]:=by rw[lG,q0b h];rfl
theorem z1B{k:Nat}(h:k<l.length):at0 l k=l[k]:=by simp[at0,h]
theorem Q1b(hn:xs.length<=1000000)(hx: ∀x∈xs,x.2.length<=1000000){g0:Int}{g1 g2:U}{s:Nat}(hs:s<xs.length){t:Sx}{le:List Int}(ht:SxI t le)(hle:le.length<=1000000): ∀(d k:Nat),k+d=xs[s].2.length->
  y19_3 M (uLs b3 xs) g0 g1 g2 (s:Int) (k:Int) t=if((xs[s].2.drop k).all fun a=>decide (a∈le))=true then y19_1 M (uLs b3 xs) g0 g1 g2 ((s+1:Nat):Int)else some (.val (uI 10)):=by
 have hxs:=hx _ (lM hs)
 intro d
 induction d with
 |zero=>
  intro k hk
  rw[X0L,dL (by omega)]
  simp only[z0U (q0b hs),oS,cell_uIs,len_uIs,show¬((k:Int)<xs[s].2.length) by omega,dF,bF,iF,List.all_nil,iT,q0a (show s<=1000000000 by omega)]
 |succ d ih=>
  intro k hk
  have hlt:k<xs[s].2.length:=by omega
  rw[X0L,List.drop_eq_getElem_cons hlt]
  simp only[z0U (q0b hs),oS,cell_uIs,len_uIs,show((k:Int)<xs[s].2.length) by omega,dY,iT,q0m (q0b hlt),cell_c,asI_c,ht.fz,z0N hle,toU_val,asB_c,q0a (show k<=1000000000 by omega),ih (k+1) (by omega),List.all_cons]
  by_cases h:xs[s].2[k]∈le<;>simp[h]
theorem Q1c(he:es.length<=2000)(hn:xs.length<=1000000)(hx: ∀x∈xs,x.2.length<=1000000){g0:Int}{g1:U}{s:Nat}(hs:s<xs.length): ∀(d k:Nat),k+d=xs[s].2.length\/(d=0/\xs[s].2.length<=k)->1<=k->k<=1000001->
  y19_2 M (uLs b3 xs) g0 g1 (uEs b2 es) (s:Int) (k:Int)=if asc xs[s].2 d k=true then(if(xs[s].2.all fun a=>decide (a∈enabled es (s:Int)))=true then y19_1 M (uLs b3 xs) g0 g1 (uEs b2 es) ((s+1:Nat):Int)else some (.val (uI 10)))else some (.val (uI 13)):=by
 have hxs:=hx _ (lM hs)
 intro d
 induction d with
 |zero=>
  intro k hk h1 hkb
  obtain⟨t,t1,t2⟩:=W0e (M:=M) (b2:=b2) he (g0:=g0) (x:=(s:Int)) (g1:=g1)
  have h3:=Q1b (M:=M) (b3:=b3) (g0:=g0) (g1:=g1) (g2:=uEs b2 es) hn hx hs t2 (by have:=j0K (enB es (s:Int)) 12 0;unfold enabled;omega) xs[s].2.length 0 (by omega)
  rw[List.drop_zero,show((0:Nat):Int)=0 from rfl]at h3
  rw[X0K]
  simp only[z0U (q0b hs),oS,cell_uIs,len_uIs,show¬((k:Int)<xs[s].2.length) by omega,dF,bF,iF,t1,asSl_sl,h3,asc,iT]
 |succ d ih=>
  intro k hk h1 hkb
  have hlt:k<xs[s].2.length:=by omega
  have hw:IntKind.wrap .i64 ((k:Int) - 1)=((k - 1:Nat):Int):=by rw[z0s (by omega) (by omega)];omega
  rw[X0K]
  simp only[z0U (q0b hs),oS,cell_uIs,len_uIs,show((k:Int)<xs[s].2.length) by omega,dY,iT,z1A hlt,hw,z1A (b:=xs[s].1) (show k - 1<xs[s].2.length by omega),cell_c,asI_c,q0a (show k<=1000000000 by omega),ih (k+1) (by omega) (by omega) (by omega),asc]
  by_cases h:at0 xs[s].2 k<=at0 xs[s].2 (k - 1)
  ·have: ¬at0 xs[s].2 (k - 1)<at0 xs[s].2 k:=by omega
   simp[h,this]
  ·have:at0 xs[s].2 (k - 1)<at0 xs[s].2 k:=by omega
   simp[h,this]
theorem Q1d(he:es.length<=2000)(hn:xs.length<=1000000)(hx: ∀x∈xs,x.2.length<=1000000){g0:Int}{g1:U}: ∀(d s:Nat),s+d=xs.length->y19_1 M (uLs b3 xs) g0 g1 (uEs b2 es) (s:Int)=some (.val (uI (formErr es xs d s))):=by
 intro d
 induction d with
 |zero=>
  intro s hs
  rw[X0J]
  simp only[len_uLs,oS,show¬((s:Int)<xs.length) by omega,dF,bF,iF,formErr]
 |succ d ih=>
  intro s hs
  have hlt:s<xs.length:=by omega
  have hxs:=hx _ (lM hlt)
  have h2:=Q1c (M:=M) (b2:=b2) (b3:=b3) (g0:=g0) (g1:=g1) he hn hx hlt (xs[s].2.length - 1) 1 (by omega) (by omega) (by omega)
  rw[show((1:Nat):Int)=1 from rfl,ih (s+1) (by omega)]at h2
  obtain⟨v1,v2,v3⟩:=k0a es s xs[s].2
  rw[X0J]
  simp only[len_uLs,oS,show((s:Int)<xs.length) by omega,dY,iT,h2,formErr,K1O hlt]
  have hA:asc xs[s].2 (xs[s].2.length - 1) 1=ascL xs[s].2:=rfl
  rw[hA]
  cases h3:ascL xs[s].2 with
  |false=>simp[v1 h3]
  |true=>
   cases h4:(xs[s].2.all fun a=>decide (a∈enabled es (s:Int)))with
   |false=>simp[v2 h3 h4]
   |true=>simp[v3 h3 h4]
theorem K1P(he:es.length<=2000)(hn:xs.length<=1000000)(hx: ∀x∈xs,x.2.length<=1000000){g1:U}:y19 M n g1 (uEs b2 es) (uLs b3 xs)=some (.val (uI (cErr n es xs))):=by
 have h1:=Q1d (M:=M) (b2:=b2) (b3:=b3) (g0:=n) (g1:=g1) he hn hx xs.length 0 (by omega)
 rw[show((0:Nat):Int)=0 from rfl]at h1
 rw[W1c]
 simp only[len_uLs,oS,h1]
 unfold cErr
 by_cases h:(xs.length:Int)=n<;>simp[h]
structure SxE (s:Sx) (l:List E3):Prop where
 es:s.es=l.map uE
 b:s.b=false->s.es=[]
 z:s.b=true->s.sz=3
theorem SxE.nil:SxE ⟨false,0,[]⟩ []:=⟨rfl,fun _=>rfl,fun h=>by cases h⟩
theorem SxE.fz{s:Sx}{l:List E3}(h:SxE s l):s.fz=uEs s.b l:=by unfold Sx.fz uEs;rw[h.es]
theorem SxE.app{s:Sx}{l:List E3}(h:SxE s l)(e:E3)(hn:l.length<=1000000): ∃s',Sx.app s 3 [.st [.c (.int .i64 e.f), .c (.int .i64 e.t), .c (.int .i64 e.a)]]=some s'/\SxE s' (l++[e]):=by
 refine⟨⟨true,3,s.es++[uE e]⟩,w0Q rfl ?_ (by rw[h.es];simpa using hn),by rw[h.es];simp,fun h=>(by cases h),fun _=>rfl⟩
 cases hb:s.b with
 |false=>exact .inl rfl
 |true=>exact .inr (h.z hb)
theorem j0E(hx: ∀x∈xs,x.2.length<=1000000)(k:Nat):(xs.getD k (false,[])).2.length<=1000000:=by
 rw[lG]
 cases h:xs[k]? with
 |none=>simp
 |some x=>exact hx x (List.mem_of_getElem? h)
end
end Go.Proofs.Ythjjbkiejkhjfaa.R
