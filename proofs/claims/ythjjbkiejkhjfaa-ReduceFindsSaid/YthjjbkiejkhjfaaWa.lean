/- - -/
import Derived.Test.YthjjbkiejkhjfaaSy
import Derived.Test.YthjjbkiejkhjfaaOc
set_option linter.all false
namespace Go.Proofs.Ythjjbkiejkhjfaa.R
open Go Go.Proofs.Ythjjbkiejkhjfaa.Vm
variable{M:YM}
def HasOpen(M:YM):Prop:= ∀us,M.ext 61 us=openY us
def uIs(b:Bool)(l:List Int):U:= .sl b (l.map uI)
def uEs(b:Bool)(es:List E3):U:= .sl b (es.map uE)
def uLs(b:Bool)(xs:List (Bool×List Int)):U:= .sl b (xs.map fun x=>uIs x.1 x.2)
@[simp] theorem len_uIs (b:Bool) (l:List Int):U.len (uIs b l)=some l.length:=by simp[uIs,U.len,U.asL]
@[simp] theorem len_uEs (b:Bool) (l:List E3):U.len (uEs b l)=some l.length:=by simp[uEs,U.len,U.asL]
@[simp] theorem len_uLs (b:Bool) (l:List (Bool×List Int)):U.len (uLs b l)=some l.length:=by simp[uLs,U.len,U.asL]
@[simp] theorem asI_uI (n:Int):U.asI .i64 (uI n)=some n:=by simp[U.asI,U.asC,C.asI]
@[simp] theorem asI_c (n:Int):U.asI .i64 (.c (.int .i64 n))=some n:=asI_uI n
@[simp] theorem asB_c (b:Bool):U.asB (.c (.bool b))=some b:=rfl
@[simp] theorem toU_val (u:U):Rz.toU (.val u)=some u:=rfl
@[simp] theorem asTup_tup (us:List U):Rz.asTup (.tup us)=some us:=rfl
@[simp] theorem asSl_sl (s:Sx):Rz.asSl (.sl s)=some s:=rfl
@[simp] theorem cell_c (c:C):U.cell (.c c) 0=some (.c c):=rfl
@[simp] theorem cell_uIs (b:Bool) (l:List Int):U.cell (uIs b l) 0=some (uIs b l):=rfl
@[simp] theorem one_uIs (b:Bool) (l:List Int):U.one (uIs b l)=some (uIs b l):=rfl
@[simp] theorem size_uIs (b:Bool) (l:List Int):U.size (uIs b l)=1:=rfl
theorem q0m{b:Bool}{l:List Int}{k:Nat}{x:Int}(h:l[k]? =some x):U.idx 1 (uIs b l) (k:Int)=some (uI x):=by
 simp[U.idx,uIs,U.asL,elU,h,U.size,U.cells]
theorem q0l{b:Bool}{l:List E3}{k:Nat}{x:E3}(h:l[k]? =some x):U.idx 3 (uEs b l) (k:Int)=some (uE x):=by
 simp[U.idx,uEs,U.asL,elU,h,U.size,U.cells,uE]
theorem z0U{b:Bool}{l:List (Bool×List Int)}{k:Nat}{x:Bool×List Int}(h:l[k]? =some x):U.idx 1 (uLs b l) (k:Int)=some (uIs x.1 x.2):=by
 simp only[U.idx,uLs,U.asL,oS,elU,Int.natCast_nonneg,iT,iN,List.getElem?_map,h,Option.map_some]
 rfl
theorem q0t(e:E3): ∃f,U.struct (uE e) 0 ks2=some f/\f 0=uI e.f/\f 1=uI e.t/\f 2=uI e.a:=by
 refine⟨fun i=>[uI e.f,uI e.t,uI e.a].getD (0+i) (.c .junk), ?_,rfl,rfl,rfl⟩
 simp[U.struct,uE,ks2,hasKs,U.hasK]
@[simp] theorem cell_uE0 (e:E3):U.cell (uE e) 0=some (uI e.f):=rfl
@[simp] theorem cell_uE1 (e:E3):U.cell (uE e) 1=some (uI e.t):=rfl
@[simp] theorem cell_uE2 (e:E3):U.cell (uE e) 2=some (uI e.a):=rfl
@[simp] theorem i_uI (n:Int):U.i (uI n)=n:=rfl
theorem q0a{k:Nat}(h:k<=1000000000):IntKind.wrap .i64 ((k:Int)+1)=((k+1:Nat):Int):=by rw[z0s (by omega) (by omega)];simp
theorem q0b{α:Type}{l:List α}{k:Nat}(h:k<l.length):l[k]? =some l[k]:=List.getElem?_eq_getElem h
def btw(n lo hi:Int):Bool:=decide (lo<=n/\n<=hi)
theorem W0t(n lo hi:Int):y37 M n lo hi=some (.val (.c (.bool (btw n lo hi)))):=by
 rw[W1h]
 by_cases h:lo<=n<;>simp[h,btw]
theorem W0u(n lo hi:Int):y69 M n lo hi=some (.val (.c (.bool (btw n lo hi)))):=by
 rw[W1A]
 by_cases h:lo<=n<;>simp[h,btw]
theorem Q1V(b:Bool)(c:Int):y68 M b c=some (.val (uI (if b=true then 0 else c))):=by
 rw[W1z];cases b<;>rfl
theorem J0i(b:Bool):y107 M b=some (.val (uI (if b=true then 1 else 0))):=by
 rw[Z1C];cases b<;>rfl
theorem K1d(n:Int):y80 M n=some (.val (.c (.bool (!btw n 0 10000)))):=by
 rw[W1G];simp[W0u]
def cmpN(x y:Int):Int:=if x<y then -1 else if y<x then 1 else 0
theorem j1m(x y:Int):y98 M x y=some (.val (uI (cmpN x y))):=by
 rw[W1V,k1n,k1n]
 unfold cmpN
 by_cases h:x<y<;>by_cases h2:y<x<;>simp[h,h2]
def firstErr:List Int->Int
 | []=>0
 |x::l=>if x=0 then firstErr l else x
theorem k1M{b:Bool}{l:List Int}(hn:l.length<=1000000): ∀(d k:Nat),k+d=l.length->y49_1 M (uIs b l) (l.length:Int) (k:Int)=some (.val (uI (firstErr (l.drop k)))):=by
 intro d
 induction d with
 |zero=>
  intro k hk
  rw[Y0m,dL (by omega)]
  simp[show¬((k:Int)<l.length) by omega,firstErr]
 |succ d ih=>
  intro k hk
  have hlt:k<l.length:=by omega
  rw[Y0m,List.drop_eq_getElem_cons hlt]
  simp only[show((k:Int)<l.length) by omega,dY,iT,q0m (q0b hlt),oS,cell_c,asI_c,firstErr,q0a (show k<=1000000000 by omega)]
  by_cases h0:l[k]=0
  ·simp only[h0,dY,Bool.not_true,bF,iF,iT]
   exact ih (k+1) (by omega)
  ·simp[h0]
theorem J1A(l:List Int)(hn:l.length<=1000000):y49 M (Sx.fz (⟨true,1,l.map uI⟩:Sx))=some (.val (uI (firstErr l))):=by
 rw[W1o]
 have:=k1M (M:=M) (b:=true) hn l.length 0 (by omega)
 rw[List.drop_zero]at this
 have hl:U.len (Sx.fz (⟨true,1,l.map uI⟩:Sx))=some l.length:=len_uIs true l
 simp only[hl,oS]
 exact this
theorem k1N{b:Bool}{l:List Int}(hn:l.length<=1000000): ∀(d k:Nat),k+d=l.length->y97_1 M 0 (uIs b l) (l.length:Int) (k:Int)=some (.val (uI (firstErr (l.drop k)))):=by
 intro d
 induction d with
 |zero=>
  intro k hk
  rw[Y0P,dL (by omega)]
  simp[show¬((k:Int)<l.length) by omega,firstErr]
 |succ d ih=>
  intro k hk
  have hlt:k<l.length:=by omega
  rw[Y0P,List.drop_eq_getElem_cons hlt]
  simp only[show((k:Int)<l.length) by omega,dY,iT,q0m (q0b hlt),oS,cell_c,asI_c,firstErr,q0a (show k<=1000000000 by omega)]
  by_cases h0:l[k]=0
  ·simp only[h0,dY,Bool.not_true,bF,iF,iT]
   exact ih (k+1) (by omega)
  ·simp[h0]
theorem j1n(l:List Int)(hn:l.length<=1000000):y97 M (Sx.fz (⟨true,1,l.map uI⟩:Sx))=some (.val (uI (firstErr l))):=by
 rw[W1U]
 have:=k1N (M:=M) (b:=true) hn l.length 0 (by omega)
 rw[List.drop_zero]at this
 have hl:U.len (Sx.fz (⟨true,1,l.map uI⟩:Sx))=some l.length:=len_uIs true l
 simp only[hl,oS]
 exact this
def cmp3(a b:E3):Int:=firstErr [cmpN a.f b.f,cmpN a.t b.t,cmpN a.a b.a]
theorem Q1W(a b:E3):y78 M a.f a.t a.a b.f b.t b.a=some (.val (uI (cmp3 a b))):=by
 have h:=j1n (M:=M) [cmpN a.f b.f,cmpN a.t b.t,cmpN a.a b.a] (by simp)
 simp only[List.map_cons,List.map_nil,uI]at h
 rw[W1F]
 simp only[j1m,oS,toU_val,asI_c,h]
 rfl
theorem K1e(a:E3):y89 M a.f a.t a.a=some (.sl ⟨true,1,[a.f,a.t,a.a].map uI⟩):=by
 rw[W1M];rfl
theorem K0B{x y:Int}(h: ¬x=y):IntKind.wrap .i64 (1 - (IntKind.wrap .i64 (2*(if decide (x<y)=true then 1 else 0))))=cmpN x y:=by
 unfold cmpN
 by_cases h1:x<y
 ·simp only[h1,dY,iT];rfl
 ·have h2:y<x:=by omega
  simp only[h1,h2,dF,bF,iF,iT];rfl
theorem z0n(x:Int):cmpN x x=0:=by simp[cmpN]
theorem J0j{x y:Int}(h: ¬x=y):cmpN x y≠0:=by
 unfold cmpN
 by_cases h1:x<y
 ·simp[h1]
 ·have h2:y<x:=by omega
  simp[h1,h2]
theorem K1f{b1 b2:Bool}(a b:E3):y88 M (uIs b1 [a.f,a.t,a.a]) (uIs b2 [b.f,b.t,b.a])=some (.val (uI (cmp3 a b))):=by
 have i0: ∀(b:Bool) (x y z:Int),U.idx 1 (uIs b [x,y,z]) 0=some (uI x):=fun b x y z=>q0m (k:=0) rfl
 have i1: ∀(b:Bool) (x y z:Int),U.idx 1 (uIs b [x,y,z]) 1=some (uI y):=fun b x y z=>q0m (k:=1) rfl
 have i2: ∀(b:Bool) (x y z:Int),U.idx 1 (uIs b [x,y,z]) 2=some (uI z):=fun b x y z=>q0m (k:=2) rfl
 have w0:IntKind.wrap .i64 ((0:Int)+1)=1:=rfl
 have w1:IntKind.wrap .i64 ((1:Int)+1)=2:=rfl
 have w2:IntKind.wrap .i64 ((2:Int)+1)=3:=rfl
 have l3: ∀(x y z:Int),(([x,y,z].length:Nat):Int)=3:=fun _ _ _=>rfl
 rw[W1L,w0B]
 simp only[len_uIs,oS,l3,show((0:Int)<3) by omega,dY,iT,i0,cell_c,asI_c,J0i,toU_val,w0]
 unfold cmp3
 by_cases h0:a.f=b.f
 ·simp only[h0,dY,Bool.not_true,bF,iF,z0n,firstErr,iT]
  rw[w0B]
  simp only[len_uIs,oS,l3,show((1:Int)<3) by omega,dY,iT,i1,cell_c,asI_c,J0i,toU_val,w1]
  by_cases h1:a.t=b.t
  ·simp only[h1,dY,Bool.not_true,bF,iF,z0n,iT]
   rw[w0B]
   simp only[len_uIs,oS,l3,show((2:Int)<3) by omega,dY,iT,i2,cell_c,asI_c,J0i,toU_val,w2]
   by_cases h2:a.a=b.a
   ·simp only[h2,dY,Bool.not_true,bF,iF,z0n,iT]
    rw[w0B]
    simp only[len_uIs,oS,l3,show¬((3:Int)<3) by omega,dF,bF,iF,J0i,toU_val,asI_c]
    rfl
   ·simp only[h2,dF,Bool.not_false,iT,K0B h2,J0j h2,iF]
  ·simp only[h1,dF,Bool.not_false,iT,K0B h1,J0j h1,iF]
 ·simp only[h0,dF,Bool.not_false,iT,K0B h0,J0j h0,iF,firstErr]
theorem k1O{b1 b2:Bool}{l r:List Int}(hn:l.length<=1000000)(hr:r.length=l.length): ∀(d k:Nat),k+d=l.length->y27_1 M (uIs b1 l) (uIs b2 r) (k:Int)=some (.val (.c (.bool (decide (l.drop k=r.drop k))))):=by
 intro d
 induction d with
 |zero=>
  intro k hk
  rw[X0P,dL (show l.length<=k by omega),dL (show r.length<=k by omega)]
  simp[show¬(k<l.length) by omega]
 |succ d ih=>
  intro k hk
  have hlt:k<l.length:=by omega
  have hlr:k<r.length:=by omega
  rw[X0P,List.drop_eq_getElem_cons hlt,List.drop_eq_getElem_cons hlr]
  simp only[len_uIs,show((k:Int)<l.length) by omega,dY,iT,q0m (q0b hlt),q0m (q0b hlr),oS,cell_c,asI_c,q0a (show k<=1000000000 by omega),ih (k+1) (by omega)]
  by_cases h0:l[k]=r[k]
  ·simp[-List.getElem_cons_drop,h0]
  ·simp[-List.getElem_cons_drop,h0]
theorem K1g{b1 b2:Bool}{l r:List Int}(hn:l.length<=1000000):y27 M (uIs b1 l) (uIs b2 r)=some (.val (.c (.bool (decide (l=r))))):=by
 rw[W1e]
 simp only[len_uIs,oS]
 by_cases h:l.length=r.length
 ·have:=k1O (M:=M) (b1:=b1) (b2:=b2) hn h.symm l.length 0 (by omega)
  rw[List.drop_zero,List.drop_zero,show((0:Nat):Int)=0 from rfl]at this
  simp only[show((l.length:Int)=(r.length:Int)) by omega,dY,Bool.not_true,bF,iF,this]
 ·have h2: ¬l=r:=fun e=>h (by rw[e])
  simp only[show¬((l.length:Int)=(r.length:Int)) by omega,dF,Bool.not_false,iT,h2]
theorem k1P{b:Bool}{l:List Int}{g:FuncId}{a c:List U}{p:Int->Bool}(hp: ∀n,ycall M g (a++[uI n]++c)=some (.val (.c (.bool (p n)))))(hn:l.length<=1000000): ∀(d k:Nat),k+d=l.length-> ∃i:Int,y82_1 M (uIs b l) (.fn g a c) (l.length:Int) (k:Int)=some (.val (uI i))/\decide (0<=i)=(l.drop k).any p:=by
 intro d
 induction d with
 |zero=>
  intro k hk
  rw[z0M,dL (by omega)]
  exact⟨-1,by simp[show¬((k:Int)<l.length) by omega],by simp⟩
 |succ d ih=>
  intro k hk
  have hlt:k<l.length:=by omega
  rw[z0M,List.drop_eq_getElem_cons hlt]
  simp only[show((k:Int)<l.length) by omega,dY,iT,q0m (q0b hlt),oS,cell_c,asI_c,q0a (show k<=1000000000 by omega),U.asF]
  have:=hp l[k]
  simp only[uI]at this
  simp only[this,oS,toU_val,asB_c]
  cases h0:p l[k]with
  |true=>exact⟨k,by simp,by simp[-List.getElem_cons_drop,h0]⟩
  |false=>
   obtain⟨i,h1,h2⟩:=ih (k+1) (by omega)
   exact⟨i,by simp only[bF,iF,h1],by rw[h2];simp[-List.getElem_cons_drop,h0]⟩
theorem K1h{b:Bool}{l:List Int}{g:FuncId}{a c:List U}{p:Int->Bool}(hp: ∀n,ycall M g (a++[uI n]++c)=some (.val (.c (.bool (p n)))))(hn:l.length<=1000000):y79 M (uIs b l) (.fn g a c)=some (.val (.c (.bool (l.any p)))):=by
 obtain⟨i,h1,h2⟩:=k1P (M:=M) (b:=b) hp hn l.length 0 (by omega)
 rw[J1q,Q0X]
 simp only[len_uIs,oS]
 rw[show((0:Nat):Int)=0 from rfl]at h1
 rw[h1]
 simp only[oS,toU_val,asI_c,h2,List.drop_zero]
theorem k0P(l:List Int):scals (l.map uI)=true:=by
 induction l with
 |nil=>rfl
 |cons x l ih=>simp only[List.map_cons,scals,ih,Bool.and_true];rfl
theorem K0C{sz:Nat}{xs:List U}(h: ∀x∈xs,x.size=sz)(hn:xs.length<=1000000):Sx.app (⟨true,sz,[]⟩:Sx) sz xs=some ⟨true,sz,xs⟩:=by
 unfold Sx.app
 rw[if_pos]
 ·simp
 ·refine⟨.inr rfl,List.all_eq_true.2 fun x hx=>by simp[h x hx], ?_⟩
  show _<=_
  simp;omega
theorem w0Q{s:Sx}{sz:Nat}{x:U}(hx:x.size=sz)(hb:s.b=false\/s.sz=sz)(hn:s.es.length<=1000000):Sx.app s sz [x]=some ⟨true,sz,s.es++[x]⟩:=by
 unfold Sx.app
 rw[if_pos]
 ·simp
 ·refine⟨hb,by simp[hx], ?_⟩
  show _<=_
  simp;omega
theorem W0v{b:Bool}{l:List Int}(hn:l.length<=1000000):y15 M (uIs b l)=some (.sl ⟨true,1,l.map uI⟩):=by
 rw[K1Z]
 simp only[uIs,U.asL,oS]
 rw[K0C (by intro x hx;obtain⟨n,_,rfl⟩:=List.mem_map.1 hx;rfl) (by simpa using hn)]
 simp only[oS,k0P,iT]
theorem K1i{n:Int}{b1 b2:Bool}{l:List Int}{es:List E3}(hl:l.length<=1000000)(he:es.length<=1000000):y14 M n (uIs b1 l) (uEs b2 es)=some (.val (.st [uI n,uIs true l,uEs true es])):=by
 rw[K1Y]
 simp only[W0v hl,oS,asSl_sl,uEs,U.asL]
 rw[K0C (by intro x hx;obtain⟨n,_,rfl⟩:=List.mem_map.1 hx;rfl) (by simpa using he)]
 rfl
end Go.Proofs.Ythjjbkiejkhjfaa.R
