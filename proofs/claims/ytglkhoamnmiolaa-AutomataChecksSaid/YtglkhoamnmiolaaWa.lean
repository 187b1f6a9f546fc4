/- - -/
import Derived.Test.YtglkhoamnmiolaaSy
import Derived.Test.YtglkhoamnmiolaaE9
set_option linter.all false
namespace Go.Proofs.Ytglkhoamnmiolaa.R
open Go Go.Proofs.Ytglkhoamnmiolaa.Vm
variable{M:YM}
abbrev uI(n:Int):U:= .c (.int .i64 n)
def uIs(b:Bool)(l:List Int):U:= .sl b (l.map uI)
structure E4 where
 f:Int
 t:Int
 n:Int
 v:Int
def uE(e:E4):U:= .st [uI e.f,uI e.t,uI e.n,uI e.v]
def uEs(b:Bool)(es:List E4):U:= .sl b (es.map uE)
def uLs(b:Bool)(xs:List (Bool×List Int)):U:= .sl b (xs.map fun x=>uIs x.1 x.2)
@[simp] theorem len_uIs (b:Bool) (l:List Int):U.len (uIs b l)=some l.length:=by simp[uIs,U.len,U.asL]
@[simp] theorem len_uEs (b:Bool) (l:List E4):U.len (uEs b l)=some l.length:=by simp[uEs,U.len,U.asL]
@[simp] theorem len_uLs (b:Bool) (l:List (Bool×List Int)):U.len (uLs b l)=some l.length:=by simp[uLs,U.len,U.asL]
@[simp] theorem asI_uI (n:Int):U.asI .i64 (uI n)=some n:=by simp[U.asI,U.asC,C.asI]
@[simp] theorem asI_c (n:Int):U.asI .i64 (.c (.int .i64 n))=some n:=asI_uI n
@[simp] theorem asB_c (b:Bool):U.asB (.c (.bool b))=some b:=rfl
@[simp] theorem toU_val (u:U):Rz.toU (.val u)=some u:=rfl
@[simp] theorem asTup_tup (us:List U):Rz.asTup (.tup us)=some us:=rfl
@[simp] theorem asSl_sl (s:Sx):Rz.asSl (.sl s)=some s:=rfl
@[simp] theorem cell_c (c:C):U.cell (.c c) 0=some (.c c):=rfl
@[simp] theorem cell_uIs (b:Bool) (l:List Int):U.cell (uIs b l) 0=some (uIs b l):=rfl
@[simp] theorem one_uIs (b:Bool) (l:List Int):U.one (uIs b l)=some (uIs b l):=rfl
@[simp] theorem size_uIs (b:Bool) (l:List Int):U.size (uIs b l)=1:=rfl
theorem q0w{b:Bool}{l:List Int}{k:Nat}{x:Int}(h:l[k]? =some x):U.idx 1 (uIs b l) (k:Int)=some (uI x):=by
 simp[U.idx,uIs,U.asL,elU,h,U.size,U.cells]
theorem k0R{b:Bool}{l:List E4}{k:Nat}{x:E4}(h:l[k]? =some x):U.idx 4 (uEs b l) (k:Int)=some (uE x):=by
 simp[U.idx,uEs,U.asL,elU,h,U.size,U.cells,uE]
theorem q0W{b:Bool}{l:List (Bool×List Int)}{k:Nat}{x:Bool×List Int}(h:l[k]? =some x):U.idx 1 (uLs b l) (k:Int)=some (uIs x.1 x.2):=by
 simp only[U.idx,uLs,U.asL,oS,elU,Int.natCast_nonneg,iT,iN,List.getElem?_map,h,Option.map_some]
 rfl
theorem j0V(e:E4): ∃f,U.struct (uE e) 0 ks0=some f/\f 0=uI e.f/\f 1=uI e.t/\f 2=uI e.n/\f 3=uI e.v:=by
 refine⟨fun i=>[uI e.f,uI e.t,uI e.n,uI e.v].getD (0+i) (.c .junk), ?_,rfl,rfl,rfl,rfl⟩
 simp[U.struct,uE,ks0,hasKs,U.hasK]
@[simp] theorem i_uI (n:Int):U.i (uI n)=n:=rfl
theorem q0b{k:Nat}(h:k<=1000000000):IntKind.wrap .i64 ((k:Int)+1)=((k+1:Nat):Int):=by rw[j0M (by omega) (by omega)];simp
theorem q0a{α:Type}{l:List α}{k:Nat}(h:k<l.length):l[k]? =some l[k]:=List.getElem?_eq_getElem h
def btw(n lo hi:Int):Bool:=decide (lo<=n/\n<=hi)
theorem Z0E(n lo hi:Int):y41 M n lo hi=some (.val (.c (.bool (btw n lo hi)))):=by
 rw[Q1E]
 by_cases h:lo<=n<;>simp[h,btw]
theorem Q0H(n lo hi:Int):y55 M n lo hi=some (.val (.c (.bool (btw n lo hi)))):=by
 rw[Q1I]
 by_cases h:lo<=n<;>simp[h,btw]
theorem Q0I(b:Bool)(c:Int):y53 M b c=some (.val (uI (if b=true then c else 0))):=by
 rw[Q1H];cases b<;>rfl
def firstErr:List Int->Int
 | []=>0
 |x::l=>if x=0 then firstErr l else x
theorem k1C{b:Bool}{l:List Int}(hn:l.length<=1000000): ∀(d k:Nat),k+d=l.length->y52_1 M 0 (uIs b l) (l.length:Int) (k:Int)=some (.val (uI (firstErr (l.drop k)))):=by
 intro d
 induction d with
 |zero=>
  intro k hk
  rw[K0I,dL (by omega)]
  simp[show¬((k:Int)<l.length) by omega,firstErr]
 |succ d ih=>
  intro k hk
  have hlt:k<l.length:=by omega
  rw[K0I,List.drop_eq_getElem_cons hlt]
  simp only[show((k:Int)<l.length) by omega,dY,iT,q0w (q0a hlt),oS,cell_c,asI_c,firstErr,q0b (show k<=1000000000 by omega)]
  by_cases h0:l[k]=0
  ·simp only[h0,dY,Bool.not_true,bF,iF,iT]
   exact ih (k+1) (by omega)
  ·simp[h0]
theorem J1L{b:Bool}{l:List Int}(hn:l.length<=1000000):y52 M (uIs b l)=some (.val (uI (firstErr l))):=by
 rw[Q1G]
 simp only[len_uIs,oS]
 exact k1C hn l.length 0 (by omega)
theorem J0z(l:List Int)(hn:l.length<=1000000):y52 M (Sx.fz (⟨true,1,l.map uI⟩:Sx))=some (.val (uI (firstErr l))):=J1L (b:=true) hn
theorem k1D{b:Bool}{l:List Int}(v:Int)(hn:l.length<=1000000): ∀(d k:Nat),k+d=l.length-> ∃i:Int,y90_1 M (uIs b l) v (l.length:Int) (k:Int)=some (.val (uI i))/\decide (0<=i)=decide (v∈l.drop k):=by
 intro d
 induction d with
 |zero=>
  intro k hk
  rw[K0T,dL (by omega)]
  exact⟨-1,by simp[show¬((k:Int)<l.length) by omega],by simp⟩
 |succ d ih=>
  intro k hk
  have hlt:k<l.length:=by omega
  rw[K0T,List.drop_eq_getElem_cons hlt]
  simp only[show((k:Int)<l.length) by omega,dY,iT,q0w (q0a hlt),oS,cell_c,asI_c,q0b (show k<=1000000000 by omega)]
  by_cases h0:v=l[k]
  ·exact⟨k,by simp[h0],by simp[-List.getElem_cons_drop,h0]⟩
  ·obtain⟨i,h1,h2⟩:=ih (k+1) (by omega)
   exact⟨i,by simp only[h0,dF,bF,iF,h1],by rw[h2];simp[-List.getElem_cons_drop,h0]⟩
theorem J1M{b:Bool}{l:List Int}(v:Int)(hn:l.length<=1000000):y56 M (uIs b l) v=some (.val (.c (.bool (decide (v∈l))))):=by
 obtain⟨i,h1,h2⟩:=k1D (M:=M) (b:=b) v hn l.length 0 (by omega)
 rw[Q1J,Q1U]
 simp only[len_uIs,oS]
 rw[show((0:Nat):Int)=0 from rfl]at h1
 rw[h1]
 simp only[oS,toU_val,asI_c,h2,List.drop_zero]
end Go.Proofs.Ytglkhoamnmiolaa.R
