/- - -/
import Derived.Test.YtglkhoamnmiolaaJ1
import Derived.Test.YtglkhoamnmiolaaE9
import Derived.Test.YtglkhoamnmiolaaHa
set_option linter.all false
namespace Go.Proofs.Ytglkhoamnmiolaa.R
open Go Go.Proofs.Ytglkhoamnmiolaa.Vm
section
variable{M:YM}
abbrev uI(n:Int):U:= .c (.int .i64 n)
def uIs(b:Bool)(l:List Int):U:= .sl b (l.map uI)
structure E4 where
 f:Int
 t:Int
 n:Int
 v:Int
def uE(e:E4):U:= .st [uI e.f,uI e.t,uI e.n,uI e.v]
def uEs(b:Bool)(es:List E4):U:= .sl b (es.map uE)
def uLs(b:Bool)(xs:List (Bool×List Int)):U:= .sl b (xs.map fun x=>uIs x.1 x.2)
@[simp] theorem len_uIs (b:Bool) (l:List Int):U.len (uIs b l)=some l.length:=by simp[uIs,U.len,U.asL]
@[simp] theorem len_uEs (b:Bool) (l:List E4):U.len (uEs b l)=some l.length:=by simp[uEs,U.len,U.asL]
@[simp] theorem len_uLs (b:Bool) (l:List (Bool×List Int)):U.len (uLs b l)=some l.length:=by simp[uLs,U.len,U.asL]
@[simp] theorem asI_uI (n:Int):U.asI .i64 (uI n)=some n:=by simp[U.asI,U.asC,C.asI]
@[simp] theorem asI_c (n:Int):U.asI .i64 (.c (.int .i64 n))=some n:=asI_uI n
@[simp] theorem asB_c (b:Bool):U.asB (.c (.bool b))=some b:=rfl
@[simp] theorem toU_val (u:U):Rz.toU (.val u)=some u:=rfl
@[simp] theorem asTup_tup (us:List U):Rz.asTup (.tup us)=some us:=rfl
@[simp] theorem asSl_sl (s:Sx):Rz.asSl (.sl s)=some s:=rfl
@[simp] theorem cell_c (c:C):U.cell (.c c) 0=some (.c c):=rfl
@[simp] theorem cell_uIs (b:Bool) (l:List Int):U.cell (uIs b l) 0=some (uIs b l):=rfl
@[simp] theorem one_uIs (b:Bool) (l:List Int):U.one (uIs b l)=some (uIs b l):=rfl
@[simp] theorem size_uIs (b:Bool) (l:List Int):U.size (uIs b l)=1:=rfl
theorem q0L{b:Bool}{l:List Int}{k:Nat}{x:Int}(h:l[k]? =some x):U.idx 1 (uIs b l) (k:Int)=some (uI x):=by
 simp[U.idx,uIs,U.asL,elU,h,U.size,U.cells]
theorem K0s{b:Bool}{l:List E4}{k:Nat}{x:E4}(h:l[k]? =some x):U.idx 4 (uEs b l) (k:Int)=some (uE x):=by
 simp[U.idx,uEs,U.asL,elU,h,U.size,U.cells,uE]
theorem j0P{b:Bool}{l:List (Bool×List Int)}{k:Nat}{x:Bool×List Int}(h:l[k]? =some x):U.idx 1 (uLs b l) (k:Int)=some (uIs x.1 x.2):=by
 simp only[U.idx,uLs,U.asL,oS,elU,Int.natCast_nonneg,iT,iN,List.getElem?_map,h,Option.map_some]
 rfl
theorem Q0e(e:E4): ∃f,U.struct (uE e) 0 ks0=some f/\f 0=uI e.f/\f 1=uI e.t/\f 2=uI e.n/\f 3=uI e.v:=by
 refine⟨fun i=>[uI e.f,uI e.t,uI e.n,uI e.v].getD (0+i) (.c .junk), ?_,rfl,rfl,rfl,rfl⟩
 simp[U.struct,uE,ks0,hasKs,U.hasK]
@[simp] theorem i_uI (n:Int):U.i (uI n)=n:=rfl
theorem q0b{k:Nat}(h:k<=1000000000):IntKind.wrap .i64 ((k:Int)+1)=((k+1:Nat):Int):=by rw[q0e (by omega) (by omega)];simp
theorem q0a{α:Type}{l:List α}{k:Nat}(h:k<l.length):l[k]? =some l[k]:=List.getElem?_eq_getElem h
def btw(n lo hi:Int):Bool:=decide (lo<=n/\n<=hi)
theorem Z0L(n lo hi:Int):y41 M n lo hi=some (.val (.c (.bool (btw n lo hi)))):=by
 rw[J1G]
 by_cases h:lo<=n<;>simp[h,btw]
theorem j1L(n lo hi:Int):y55 M n lo hi=some (.val (.c (.bool (btw n lo hi)))):=by
 rw[J1R]
 by_cases h:lo<=n<;>simp[h,btw]
theorem J1g(n lo hi:Int):y107 M n lo hi=some (.val (.c (.bool (btw n lo hi)))):=by
 rw[w1U]
 by_cases h:lo<=n<;>simp[h,btw]
theorem j1M(b:Bool)(c:Int):y53 M b c=some (.val (uI (if b=true then c else 0))):=by
 rw[J1P];cases b<;>rfl
theorem J1h(b:Bool)(c:Int):y108 M b c=some (.val (uI (if b=true then c else 0))):=by
 rw[w1V];cases b<;>rfl
theorem J1i(n:Int):y106 M n=some (.val (.c (.bool (!btw n 0 4095)))):=by
 rw[w1T];simp[J1g]
def firstErr:List Int->Int
 | []=>0
 |x::l=>if x=0 then firstErr l else x
theorem k1M{b:Bool}{l:List Int}(hn:l.length<=1000000): ∀(d k:Nat),k+d=l.length->y52_1 M 0 (uIs b l) (l.length:Int) (k:Int)=some (.val (uI (firstErr (l.drop k)))):=by
 intro d
 induction d with
 |zero=>
  intro k hk
  rw[K0Y,dL (by omega)]
  simp[show¬((k:Int)<l.length) by omega,firstErr]
 |succ d ih=>
  intro k hk
  have hlt:k<l.length:=by omega
  rw[K0Y,List.drop_eq_getElem_cons hlt]
  simp only[show((k:Int)<l.length) by omega,dY,iT,q0L (q0a hlt),oS,cell_c,asI_c,firstErr,q0b (show k<=1000000000 by omega)]
  by_cases h0:l[k]=0
  ·simp only[h0,dY,Bool.not_true,bF,iF,iT]
   exact ih (k+1) (by omega)
  ·simp[h0]
theorem K1e{b:Bool}{l:List Int}(hn:l.length<=1000000):y52 M (uIs b l)=some (.val (uI (firstErr l))):=by
 rw[J1O]
 simp only[len_uIs,oS]
 exact k1M hn l.length 0 (by omega)
theorem J0H(l:List Int)(hn:l.length<=1000000):y52 M (Sx.fz (⟨true,1,l.map uI⟩:Sx))=some (.val (uI (firstErr l))):=K1e (b:=true) hn
theorem k1N{b:Bool}{l:List Int}(v:Int)(hn:l.length<=1000000): ∀(d k:Nat),k+d=l.length->y49_1 M (uIs b l) v (k:Int)=some (.val (.c (.bool (decide (v∈l.drop k))))):=by
 intro d
 induction d with
 |zero=>
  intro k hk
  rw[K0W,dL (by omega)]
  simp[show¬(k<l.length) by omega]
 |succ d ih=>
  intro k hk
  have hlt:k<l.length:=by omega
  rw[K0W,List.drop_eq_getElem_cons hlt]
  simp only[len_uIs,show((k:Int)<l.length) by omega,dY,iT,q0L (q0a hlt),oS,cell_c,asI_c,q0b (show k<=1000000000 by omega)]
  by_cases h0:l[k]=v
  ·simp[h0]
  ·simp only[h0,dF,bF,iF,ih (k+1) (by omega),mC]
   have: ¬v=l[k]:=fun e=>h0 e.symm
   simp[this]
theorem w1G{b:Bool}{l:List Int}(v:Int)(hn:l.length<=1000000):y49 M (uIs b l) v=some (.val (.c (.bool (decide (v∈l))))):=by
 rw[J1L]
 exact k1N v hn l.length 0 (by omega)
theorem k1O{b:Bool}{l:List Int}(v:Int)(hn:l.length<=1000000): ∀(d k:Nat),k+d=l.length-> ∃i:Int,y90_1 M (uIs b l) v (l.length:Int) (k:Int)=some (.val (uI i))/\decide (0<=i)=decide (v∈l.drop k):=by
 intro d
 induction d with
 |zero=>
  intro k hk
  rw[W0f,dL (by omega)]
  exact⟨-1,by simp[show¬((k:Int)<l.length) by omega],by simp⟩
 |succ d ih=>
  intro k hk
  have hlt:k<l.length:=by omega
  rw[W0f,List.drop_eq_getElem_cons hlt]
  simp only[show((k:Int)<l.length) by omega,dY,iT,q0L (q0a hlt),oS,cell_c,asI_c,q0b (show k<=1000000000 by omega)]
  by_cases h0:v=l[k]
  ·exact⟨k,by simp[h0],by simp[-List.getElem_cons_drop,h0]⟩
  ·obtain⟨i,h1,h2⟩:=ih (k+1) (by omega)
   exact⟨i,by simp only[h0,dF,bF,iF,h1],by rw[h2];simp[-List.getElem_cons_drop,h0]⟩
theorem K1f{b:Bool}{l:List Int}(v:Int)(hn:l.length<=1000000):y56 M (uIs b l) v=some (.val (.c (.bool (decide (v∈l))))):=by
 obtain⟨i,h1,h2⟩:=k1O (M:=M) (b:=b) v hn l.length 0 (by omega)
 rw[J1S,Z1d]
 simp only[len_uIs,oS]
 rw[show((0:Nat):Int)=0 from rfl]at h1
 rw[h1]
 simp only[oS,toU_val,asI_c,h2,List.drop_zero]
theorem k1P{b:Bool}{l:List Int}{g:FuncId}{a c:List U}{p:Int->Bool}(hp: ∀n,ycall M g (a++[uI n]++c)=some (.val (.c (.bool (p n)))))(hn:l.length<=1000000): ∀(d k:Nat),k+d=l.length-> ∃i:Int,y91_1 M (uIs b l) (.fn g a c) (l.length:Int) (k:Int)=some (.val (uI i))/\decide (0<=i)=(l.drop k).any p:=by
 intro d
 induction d with
 |zero=>
  intro k hk
  rw[W0g,dL (by omega)]
  exact⟨-1,by simp[show¬((k:Int)<l.length) by omega],by simp⟩
 |succ d ih=>
  intro k hk
  have hlt:k<l.length:=by omega
  rw[W0g,List.drop_eq_getElem_cons hlt]
  simp only[show((k:Int)<l.length) by omega,dY,iT,q0L (q0a hlt),oS,cell_c,asI_c,q0b (show k<=1000000000 by omega),U.asF]
  have:=hp l[k]
  simp only[uI]at this
  simp only[this,oS,toU_val,asB_c]
  cases h0:p l[k]with
  |true=>exact⟨k,by simp,by simp[-List.getElem_cons_drop,h0]⟩
  |false=>
   obtain⟨i,h1,h2⟩:=ih (k+1) (by omega)
   exact⟨i,by simp only[bF,iF,h1],by rw[h2];simp[-List.getElem_cons_drop,h0]⟩
theorem w1H{b:Bool}{l:List Int}{g:FuncId}{a c:List U}{p:Int->Bool}(hp: ∀n,ycall M g (a++[uI n]++c)=some (.val (.c (.bool (p n)))))(hn:l.length<=1000000):y61 M (uIs b l) (.fn g a c)=some (.val (.c (.bool (l.any p)))):=by
 obtain⟨i,h1,h2⟩:=k1P (M:=M) (b:=b) hp hn l.length 0 (by omega)
 rw[J1U,Z1e]
 simp only[len_uIs,oS]
 rw[show((0:Nat):Int)=0 from rfl]at h1
 rw[h1]
 simp only[oS,toU_val,asI_c,h2,List.drop_zero]
end
section
variable{M:YM}
theorem Q0q(l:List Int):scals (l.map uI)=true:=by
 induction l with
 |nil=>rfl
 |cons x l ih=>simp only[List.map_cons,scals,ih,Bool.and_true];rfl
theorem Z0W{sz:Nat}{xs:List U}(h: ∀x∈xs,x.size=sz)(hn:xs.length<=1000000):Sx.app (⟨true,sz,[]⟩:Sx) sz xs=some ⟨true,sz,xs⟩:=by
 unfold Sx.app
 rw[if_pos]
 ·simp
 ·refine⟨.inr rfl,List.all_eq_true.2 fun x hx=>by simp[h x hx], ?_⟩
  show _<=_
  simp;omega
theorem W0o{b:Bool}{l:List Int}(hn:l.length<=1000000):y38 M (uIs b l)=some (.sl ⟨true,1,l.map uI⟩):=by
 rw[J1E]
 simp only[uIs,U.asL,oS]
 rw[Z0W (by intro x hx;obtain⟨n,_,rfl⟩:=List.mem_map.1 hx;rfl) (by simpa using hn)]
 simp only[oS,Q0q,iT]
def cp(xs:List (Bool×List Int)):List (Bool×List Int):=xs.map fun x=>(true,x.2)
theorem z1x{b:Bool}{xs:List (Bool×List Int)}(hn:xs.length<=1000000)(hx: ∀x∈xs,x.2.length<=1000000): ∀(d k:Nat) (out:Sx),k+d=xs.length->out.es=(cp (xs.take k)).map (fun x=>uIs x.1 x.2)->(out.b=false->out.es=[])->(out.b=true->out.sz=1)->
  ∃b',y39_1 M (uLs b xs) (k:Int) out=some (.sl ⟨b',if b'=true then 1 else out.sz,(cp xs).map fun x=>uIs x.1 x.2⟩)/\(b'=false->xs=[]\/out.b=false):=by
 intro d
 induction d with
 |zero=>
  intro k out hk ho hb hz
  rw[K0S]
  simp only[len_uLs,oS,show¬((k:Int)<xs.length) by omega,dF,bF,iF]
  rw[List.take_of_length_le (by omega)]at ho
  obtain⟨ob,osz,oes⟩:=out
  simp only at ho hb hz⊢
  subst ho
  cases ob with
  |true=>exact⟨true,by simp[hz rfl],fun h=>by cases h⟩
  |false=>exact⟨false,by simp,fun _=> .inr rfl⟩
 |succ d ih=>
  intro k out hk ho hb hz
  have hlt:k<xs.length:=by omega
  rw[K0S]
  simp only[len_uLs,oS,show((k:Int)<xs.length) by omega,dY,iT,j0P (q0a hlt),cell_uIs,W0o (hx _ (lM hlt)),asSl_sl,q0b (show k<=1000000000 by omega)]
  have happ:Sx.app out 1 [Sx.fz ⟨true,1,xs[k].2.map uI⟩]=some ⟨true,1,out.es++[uIs true xs[k].2]⟩:=by
   unfold Sx.app
   have hlen:out.es.length=k:=by rw[ho];simp[cp];omega
   rw[if_pos]
   ·simp[Sx.fz,uIs]
   ·refine⟨?_,rfl, ?_⟩
    ·cases hob:out.b with
     |false=>exact .inl rfl
     |true=>exact .inr (hz hob)
    ·show _<=_
     rw[hlen];simp;omega
  rw[happ]
  simp only[oS]
  obtain⟨b',h1,h2⟩:=ih (k+1) ⟨true,1,out.es++[uIs true xs[k].2]⟩ (by omega) (by
   simp only[ho,List.take_succ_eq_append_getElem hlt,cp,List.map_append,List.map_cons,List.map_nil]) (fun h=>by cases h) (fun _=>rfl)
  cases b' with
  |true=>exact⟨true,by simpa using h1,fun h=>by cases h⟩
  |false=>
        rcases h2 rfl with h |h
        ·rw[h]at hlt;simp at hlt
        ·cases h
theorem Z1g{b:Bool}{xs:List (Bool×List Int)}(hn:xs.length<=1000000)(hx: ∀x∈xs,x.2.length<=1000000): ∃s,y39 M (uLs b xs)=some (.sl s)/\ ∃b',s.fz=uLs b' (cp xs):=by
 obtain⟨b',h,_⟩:=z1x (M:=M) (b:=b) hn hx xs.length 0 ⟨false,0,[]⟩ (by omega) (by simp[cp]) (fun _=>rfl) (fun h=>by cases h)
 rw[J1F]
 exact⟨_,h,b',rfl⟩
theorem Z1h{b1 b2 b3:Bool}{a:Int}{l:List Int}{es:List E4}{xs:List (Bool×List Int)}(hl:l.length<=1000000)(he:es.length<=1000000)(hn:xs.length<=1000000)(hx: ∀x∈xs,x.2.length<=1000000):
  ∃b',y11 M a (uIs b1 l) (uEs b2 es) (uLs b3 xs)=some (.val (.st [uI a,uIs true l,uEs true es,uLs b' (cp xs)])):=by
 obtain⟨s,h1,b',h2⟩:=Z1g (M:=M) (b:=b3) hn hx
 rw[J1t]
 simp only[W0o hl,oS,asSl_sl,uEs,U.asL]
 rw[Z0W (by intro x hx;obtain⟨n,_,rfl⟩:=List.mem_map.1 hx;rfl) (by simpa using he)]
 simp only[oS,h1,asSl_sl,h2]
 exact⟨b',rfl⟩
theorem Z1i{b1 b2:Bool}{l r:List Int}(hl:l.length<=1000000)(hr:r.length<=1000000):y19 M (uIs b1 l) (uIs b2 r)=some (.val (.st [uIs true l,uIs true r])):=by
 rw[J1x]
 simp only[W0o hl,W0o hr,oS,asSl_sl]
 rfl
def at0(l:List Int)(i:Nat):Int:=l.getD i 0
theorem W0p{b:Bool}{l:List Int}{k:Nat}(h:k<l.length):U.idx 1 (uIs b l) (k:Int)=some (uI (at0 l k)):=by
 rw[q0L (q0a h)]
 simp[at0,h]
theorem Q0r{l r:List Int}{i:Nat}:at0 (l++r) i=if i<l.length then at0 l i else at0 r (i - l.length):=by
 unfold at0
 by_cases h:i<l.length
 ·simp[h,List.getElem?_append_left h]
 ·simp[h,List.getElem?_append_right (show l.length<=i by omega)]
theorem W0q{b1 b2:Bool}{l r:List Int}{i:Nat}(hi:i<l.length+r.length)(hn:l.length+r.length<=1000000):y48 M (uIs b1 l) (uIs b2 r) (i:Int)=some (.val (uI (at0 (l++r) i))):=by
 rw[J1K,Q0r]
 simp only[len_uIs,oS]
 by_cases h:i<l.length
 ·simp only[show((i:Int)<l.length) by omega,dY,iT,W0p h,oS,cell_c,asI_c,h]
 ·have hw:IntKind.wrap .i64 ((i:Int) - (l.length:Int))=((i - l.length:Nat):Int):=by rw[q0e (by omega) (by omega)];omega
  simp only[show¬((i:Int)<l.length) by omega,dF,bF,iF,hw,W0p (b:=b2) (l:=r) (k:=i - l.length) (by omega),oS,cell_c,asI_c,h]
theorem Z1j{b1 b2:Bool}{l r:List Int}{i:Nat}(hi:i<l.length+r.length)(hn:l.length+r.length<=1000000):y51 M (uIs b1 l) (uIs b2 r) (i:Int)=some (.val (uI (((if i+1<l.length+r.length then i+1 else l.length:Nat):Nat):Int))):=by
 rw[J1N]
 have hw:IntKind.wrap .i64 ((l.length:Int)+(r.length:Int))=((l.length+r.length:Nat):Int):=by rw[q0e (by omega) (by omega)];simp
 simp only[len_uIs,oS,q0b (show i<=1000000000 by omega),hw]
 by_cases h:i+1<l.length+r.length
 ·simp only[show(((i+1:Nat):Int)<((l.length+r.length:Nat):Int)) by omega,dY,iT,h]
 ·simp only[show¬(((i+1:Nat):Int)<((l.length+r.length:Nat):Int)) by omega,dF,bF,iF,h]
def letr(l r:List Int)(i:Nat):Int:=if i<l.length then at0 l i else at0 r ((i - l.length) % r.length)
theorem z0E(a b:Nat):Int.tmod (a:Int) (b:Int)=((a % b:Nat):Int):=by
 rw[Int.tmod_eq_emod_of_nonneg (by omega)];simp
theorem Y0N{b1 b2:Bool}{l r:List Int}{i:Nat}(hr:0<r.length)(hn:l.length+r.length<=1000000)(hi:i<=1000000):y42 M (uIs b1 l) (uIs b2 r) (i:Int)=some (.val (uI (letr l r i))):=by
 rw[J1H,letr]
 simp only[len_uIs,oS]
 by_cases h:i<l.length
 ·simp only[show((i:Int)<l.length) by omega,dY,iT,W0p h,oS,cell_c,asI_c,h]
 ·have hw:IntKind.wrap .i64 ((i:Int) - (l.length:Int))=((i - l.length:Nat):Int):=by rw[q0e (by omega) (by omega)];omega
  simp only[show¬((i:Int)<l.length) by omega,dF,bF,iF,show¬((r.length:Int)=0) by omega,hw,z0E,W0p (b:=b2) (l:=r) (k:=(i - l.length) % r.length) (Nat.mod_lt _ hr),oS,cell_c,asI_c,h]
theorem j0Z{l r:List Int}{i:Nat}(hi:i<l.length+r.length):letr l r i=at0 (l++r) i:=by
 rw[letr,Q0r]
 by_cases h:i<l.length
 ·simp[h]
 ·simp only[h,iF];rw[Nat.mod_eq_of_lt (by omega)]
def ltr(n:Int):Bool:=btw n 0 4095
def wErr(l r:List Int):Int:=if r.length=0 then 1 else if 60<l.length+r.length then 2 else if(l++r).all ltr=true then 0 else 3
theorem Z1k{b1 b2:Bool}{l r:List Int}(hn:l.length+r.length<=1000000):y84 M (uIs b1 l) (uIs b2 r)=some (.val (uI (wErr l r))):=by
 rw[J1Z]
 have hw:IntKind.wrap .i64 ((l.length:Int)+(r.length:Int))=((l.length+r.length:Nat):Int):=by rw[q0e (by omega) (by omega)];simp
 have hp: ∀n,ycall M 106 ([]++[uI n]++[])=some (.val (.c (.bool (!ltr n)))):=fun n=>J1i n
 have hlit:=fun a b=>J0H (M:=M) [a,b] (by simp)
 simp only[List.map_cons,List.map_nil,uI]at hlit
 simp only[len_uIs,oS,J1h,toU_val,asI_c,hw,hlit,w1H hp (show l.length<=1000000 by omega),w1H hp (show r.length<=1000000 by omega),asB_c,firstErr]
 unfold wErr
 by_cases h1:r.length=0
 ·simp[h1]
 ·by_cases h2:60<l.length+r.length
  ·have:(60:Int)<((l.length+r.length:Nat):Int):=by omega
   simp only[show¬((r.length:Int)=0) by omega,dF,bF,iF,iT,this,dY,h1,h2]
   simp
  ·have: ¬(60:Int)<((l.length+r.length:Nat):Int):=by omega
   simp only[show¬((r.length:Int)=0) by omega,dF,bF,iF,iT,this,h1,h2,dY,Bool.not_true,List.all_append,bA]
   have hl:l.any (fun n=> !ltr n)= !l.all ltr:=by rw[List.any_eq_not_all_not];simp
   have hr:r.any (fun n=> !ltr n)= !r.all ltr:=by rw[List.any_eq_not_all_not];simp
   rw[hl,hr]
   cases l.all ltr<;>cases r.all ltr<;>simp
theorem z1y{b1 b2:Bool}{l r:List Int}(hr:0<r.length)(hn:l.length+r.length<=1000000): ∀(d k:Nat),k+d=l.length+r.length->y15_1 M (uIs b1 l) (uIs b2 r) (k:Int)=some (.val (uI (if((l++r).drop k).all ltr=true then 0 else 3))):=by
 intro d
 have hw:IntKind.wrap .i64 ((l.length:Int)+(r.length:Int))=((l.length+r.length:Nat):Int):=by rw[q0e (by omega) (by omega)];simp
 induction d with
 |zero=>
  intro k hk
  rw[K0H,dL (by simp;omega)]
  simp only[len_uIs,oS,hw,show¬((k:Int)<((l.length+r.length:Nat):Int)) by omega,dF,bF,iF,List.all_nil,iT]
 |succ d ih=>
  intro k hk
  have hlt:k<(l++r).length:=by simp;omega
  have hat:letr l r k=(l++r)[k]:=by rw[j0Z (by omega)];unfold at0;rw[lG,List.getElem?_eq_getElem hlt];rfl
  rw[K0H,List.drop_eq_getElem_cons hlt]
  simp only[len_uIs,oS,hw,show((k:Int)<((l.length+r.length:Nat):Int)) by omega,dY,iT,Y0N (b1:=b1) (b2:=b2) (l:=l) hr hn (show k<=1000000 by omega),toU_val,asI_c,Z0L,asB_c,q0b (show k<=1000000000 by omega),ih (k+1) (by omega),hat,List.all_cons]
  have:btw (l++r)[k] 0 4095=ltr (l++r)[k]:=rfl
  rw[this]
  by_cases hl:ltr (l++r)[k]=true
  ·simp only[hl,Bool.not_true,bF,iF,Bool.true_and]
  ·simp only[Bool.not_eq_true]at hl;simp only[hl,Bool.not_false,iT,Bool.false_and,bF,iF]
theorem w1b{b1 b2:Bool}{l r:List Int}(hn:l.length+r.length<=1000000):y15 M (uIs b1 l) (uIs b2 r)=some (.val (uI (wErr l r))):=by
 rw[J1v]
 have hw:IntKind.wrap .i64 ((l.length:Int)+(r.length:Int))=((l.length+r.length:Nat):Int):=by rw[q0e (by omega) (by omega)];simp
 simp only[len_uIs,oS,hw]
 unfold wErr
 by_cases h1:r.length=0
 ·simp[h1]
 ·have:=z1y (M:=M) (b1:=b1) (b2:=b2) (l:=l) (r:=r) (by omega) hn (l.length+r.length) 0 (by omega)
  rw[show((0:Nat):Int)=0 from rfl,List.drop_zero]at this
  simp only[show¬((r.length:Int)=0) by omega,dF,bF,iF,h1,this]
  by_cases h2:60<l.length+r.length
  ·have:(60:Int)<((l.length+r.length:Nat):Int):=by omega
   simp only[this,h2,dY,iT]
  ·have: ¬(60:Int)<((l.length+r.length:Nat):Int):=by omega
   simp only[this,h2,dF,bF,iF]
end
section
variable{M:YM}
def prev(l:List Int)(k:Nat):Option Int:=if k=0 then none else l[k - 1]?
theorem w0U{l:List Int}{k:Nat}(h:k<l.length):prev l (k+1)=some l[k]:=by unfold prev;simp[h]
def code(n:Int)(p:Option Int)(x:Int):Int:=if btw x 0 (n - 1)=true then(if p.any (fun y=>decide (x<=y))=true then 13 else 0)else 3
def sErr(n:Int):Option Int->List Int->Int
 |_,[]=>0
 |p,x::l=>if code n p x=0 then sErr n (some x) l else code n p x
def eOK(n:Int)(e:E4):Bool:=btw e.f 0 (n - 1)&&btw e.t 0 (n - 1)&&btw e.n 0 4095&&btw e.v 0 4095
def eAll(n:Int)(es:List E4):Int:=if es.all (eOK n)=true then 0 else 3
theorem X0k(n:Int):eAll n []=0:=rfl
theorem Z0x(n:Int)(e:E4)(es:List E4):eAll n (e::es)=if(btw e.f 0 (n - 1)&&btw e.t 0 (n - 1)&&btw e.n 0 4095&&btw e.v 0 4095)=true then eAll n es else 3:=by
 simp only[eAll,List.all_cons]
 have:eOK n e=(btw e.f 0 (n - 1)&&btw e.t 0 (n - 1)&&btw e.n 0 4095&&btw e.v 0 4095):=rfl
 rw[<-this]
 by_cases h:eOK n e=true
 ·simp[h]
 ·simp only[Bool.not_eq_true]at h;simp[h]
def lErr(n:Int):List (Bool×List Int)->Int
 | []=>0
 |l::r=>if sErr n none l.2=0 then lErr n r else sErr n none l.2
def aErr(a:Int)(l:List Int)(es:List E4)(xs:List (Bool×List Int)):Int:=
 if btw a 0 300=true then(if 6000<es.length\/8<xs.length then 2 else if sErr a none l=0 then(if es.all (eOK a)=true then lErr a xs else 3)else sErr a none l)else 3
theorem z0A{a:Int}(h:btw a 0 300=true):IntKind.wrap .i64 (a - 1)=a - 1:=by
 simp only[btw,dE]at h
 exact q0e (by omega) (by omega)
theorem w1x{b:Bool}{a:Int}{a1 a2 a3:U}{l:List Int}(ha:btw a 0 300=true)(hn:l.length<=1000000){k:Nat}(hk:k<l.length):y65 M a a1 a2 a3 (uIs b l) (k:Int)=some (.val (uI (code a (prev l k) l[k]))):=by
 rw[J1W]
 simp only[q0L (q0a hk),oS,cell_c,asI_c,z0A ha,Z0L,toU_val,asB_c,code]
 by_cases hb:btw l[k] 0 (a - 1)=true
 ·simp only[hb,Bool.not_true,bF,iF,iT]
  by_cases h0:k=0
  ·subst h0;simp[prev]
  ·have hw:IntKind.wrap .i64 ((k:Int) - 1)=((k - 1:Nat):Int):=by rw[q0e (by omega) (by omega)];omega
   have hp:prev l k=some l[k - 1]:=by unfold prev;rw[if_neg h0];exact q0a (by omega)
   simp only[show((0:Int)<k) by omega,dY,iT,hw,q0L (b:=b) (q0a (show k - 1<l.length by omega)),oS,cell_c,asI_c,hp,Option.any_some]
   by_cases hle:l[k]<=l[k - 1]<;>simp[hle]
 ·simp only[Bool.not_eq_true]at hb
  simp[hb]
theorem k1A{b:Bool}{a:Int}{l:List Int}(ha:btw a 0 300=true)(hn:l.length<=1000000): ∀(d k:Nat),k+d=l.length-> ∃i:Int,y63_1 M (uIs b l) a (uIs b l) (l.length:Int) (k:Int)=some (.tup [uI i,uI (sErr a (prev l k) (l.drop k))]):=by
 intro d
 induction d with
 |zero=>
  intro k hk
  rw[W0a,dL (by omega)]
  exact⟨0,by simp[show¬((k:Int)<l.length) by omega,sErr]⟩
 |succ d ih=>
  intro k hk
  have hlt:k<l.length:=by omega
  obtain⟨i,h1⟩:=ih (k+1) (by omega)
  rw[w0U hlt]at h1
  have hlit:=fun a b=>J0H (M:=M) [a,b] (by simp)
  simp only[List.map_cons,List.map_nil,uI]at hlit
  rw[W0a,List.drop_eq_getElem_cons hlt]
  have hq:(if(decide ((0:Int)<(k:Int)))=true then
    (U.idx 1 (uIs b l) (if 0>(IntKind.wrap .i64 ((k:Int) - 1))then 0 else(IntKind.wrap .i64 ((k:Int) - 1)))).bind fun v10=>
    (U.cell v10 0).bind fun c11=>(U.asI .i64 c11).bind fun n12=>some (decide (l[k]<=n12))
   else some (decide ((0:Int)<(k:Int))))=some ((prev l k).any fun y=>decide (l[k]<=y)):=by
   by_cases h0:k=0
   ·subst h0;simp[prev]
   ·have hw:IntKind.wrap .i64 ((k:Int) - 1)=((k - 1:Nat):Int):=by rw[q0e (by omega) (by omega)];omega
    have hp:prev l k=some l[k - 1]:=by unfold prev;rw[if_neg h0];exact q0a (by omega)
    simp only[show((0:Int)<k) by omega,dY,iT,hw,show¬((0:Int)>((k - 1:Nat):Int)) by omega,iF,q0L (b:=b) (q0a (show k - 1<l.length by omega)),oS,cell_c,asI_c,hp,Option.any_some]
  simp only[show((k:Int)<l.length) by omega,dY,iT,q0L (q0a hlt),oS,cell_c,asI_c,z0A ha,j1L,toU_val,asB_c,j1M]
  rw[hq]
  simp only[oS,j1M,toU_val,asI_c,hlit,q0b (show k<=1000000000 by omega),sErr]
  have hc:firstErr [if(!btw l[k] 0 (a - 1))=true then 3 else 0,if((prev l k).any fun y=>decide (l[k]<=y))=true then 13 else 0]=code a (prev l k) l[k]:=by
   unfold code
   by_cases hb:btw l[k] 0 (a - 1)=true
   ·by_cases hy:((prev l k).any fun y=>decide (l[k]<=y))=true<;>simp[hb,hy,firstErr]
   ·simp only[Bool.not_eq_true]at hb;simp[hb,firstErr]
  rw[hc]
  by_cases h0:code a (prev l k) l[k]=0
  ·simp only[h0,dY,Bool.not_true,bF,iF,iT]
   exact⟨i,h1⟩
  ·simp only[h0,dF,Bool.not_false,iT,iF]
   exact⟨k,rfl⟩
theorem w1y{b:Bool}{a:Int}{l:List Int}(ha:btw a 0 300=true)(hn:l.length<=1000000): ∃i:Int,y63 M (uIs b l) a=some (.tup [uI i,uI (sErr a none l)]):=by
 obtain⟨i,h⟩:=k1A (M:=M) (b:=b) ha hn l.length 0 (by omega)
 rw[J1V]
 simp only[len_uIs,oS]
 exact⟨i,h⟩
def Goes(x:YRs)(e:Int)(y:YRs):Prop:=(e=0->x=y)/\(e≠0-> ∃i:Int,x=some (.tup [uI i,uI e]))
section
variable{a:Int}{b1 b2 b3:Bool}{l:List Int}{es:List E4}{xs:List (Bool×List Int)}(ha:btw a 0 300=true)(hl:l.length<=1000000)(he:es.length<=1000000)(hn:xs.length<=1000000)(hx: ∀x∈xs,x.2.length<=1000000)
include ha
theorem k1B(hn:xs.length<=1000000)(hx: ∀x∈xs,x.2.length<=1000000){a1 a2 a3:U}: ∀(d k:Nat),k+d=xs.length-> ∃i:Int,y25_2 M a a1 a2 a3 (uLs b3 xs) (xs.length:Int) (k:Int)=some (.tup [uI i,uI (lErr a (xs.drop k))]):=by
 intro d
 induction d with
 |zero=>
  intro k hk
  rw[K0N,dL (by omega)]
  exact⟨0,by simp[show¬((k:Int)<xs.length) by omega,lErr]⟩
 |succ d ih=>
  intro k hk
  have hlt:k<xs.length:=by omega
  obtain⟨i,h1⟩:=ih (k+1) (by omega)
  obtain⟨j,h2⟩:=w1y (M:=M) (b:=xs[k].1) ha (hx _ (lM hlt))
  rw[K0N,List.drop_eq_getElem_cons hlt]
  simp only[show((k:Int)<xs.length) by omega,dY,iT,j0P (q0a hlt),oS,cell_uIs,h2,asTup_tup,List.getElem?_cons_zero,List.getElem?_cons_succ,asI_c,q0b (show k<=1000000000 by omega),lErr]
  by_cases h0:sErr a none xs[k].2=0
  ·simp only[h0,dY,Bool.not_true,bF,iF,iT]
   exact⟨i,h1⟩
  ·simp only[h0,dF,Bool.not_false,iT,iF]
   exact⟨k,rfl⟩
theorem k1C(he:es.length<=1000000){a1 a3:U}: ∀(d k:Nat),k+d=es.length->Goes (y25_1 M a a1 (uEs b2 es) (uLs b3 xs) (uEs b2 es) (es.length:Int) (k:Int)) (eAll a (es.drop k)) (y25_2 M a a1 (uEs b2 es) (uLs b3 xs) (uLs b3 xs) (xs.length:Int) 0):=by
 intro d
 induction d with
 |zero=>
  intro k hk
  rw[K0M,dL (by omega)]
  simp only[show¬((k:Int)<es.length) by omega,dF,bF,iF,len_uLs,oS,X0k]
  exact⟨fun _=>rfl,fun h=>absurd rfl h⟩
 |succ d ih=>
  intro k hk
  have hlt:k<es.length:=by omega
  obtain⟨f,f0,f1,f2,f3,f4⟩:=Q0e es[k]
  have ih':=ih (k+1) (by omega)
  rw[K0M,List.drop_eq_getElem_cons hlt]
  simp only[show((k:Int)<es.length) by omega,dY,iT,K0s (q0a hlt),oS,f0,f1,f2,f3,f4,i_uI,z0A ha,j1L,toU_val,asB_c,q0b (show k<=1000000000 by omega),Z0x]
  cases h1:btw es[k].f 0 (a - 1)with
  |false=>simp only[Bool.not_false,iT,oS,Bool.true_eq_false,iF,Bool.false_and,bF];exact⟨fun h=>(by cases h),fun _=>⟨k,rfl⟩⟩
  |true=>
   cases h2:btw es[k].t 0 (a - 1)with
   |false=>simp only[Bool.not_true,Bool.not_false,iT,oS,Bool.true_eq_false,iF,Bool.true_and,Bool.false_and,bF];exact⟨fun h=>(by cases h),fun _=>⟨k,rfl⟩⟩
   |true=>
    cases h3:btw es[k].n 0 4095 with
    |false=>simp only[Bool.not_true,Bool.not_false,iT,oS,Bool.true_eq_false,iF,Bool.true_and,Bool.false_and,bF];exact⟨fun h=>(by cases h),fun _=>⟨k,rfl⟩⟩
    |true=>
     cases h4:btw es[k].v 0 4095 with
     |false=>simp only[Bool.not_true,Bool.not_false,iT,oS,Bool.true_eq_false,iF,Bool.true_and,Bool.false_and,bF];exact⟨fun h=>(by cases h),fun _=>⟨k,rfl⟩⟩
     |true=>simp only[Bool.not_true,iT,oS,Bool.true_and,bF,iF];exact ih'
theorem k1D(hn:xs.length<=1000000)(hx: ∀x∈xs,x.2.length<=1000000){a1 a2:U}{i:Nat}(hi:i<xs.length): ∀(d k:Nat),k+d=xs[i].2.length->Goes (y27_4 M a a1 a2 (uLs b3 xs) (i:Int) (k:Int)) (sErr a (prev xs[i].2 k) (xs[i].2.drop k)) (y27_3 M a a1 a2 (uLs b3 xs) ((i+1:Nat):Int)):=by
 have hxi:=hx _ (lM hi)
 intro d
 induction d with
 |zero=>
  intro k hk
  rw[K0R,dL (by omega)]
  simp only[j0P (q0a hi),oS,cell_uIs,len_uIs,show¬((k:Int)<xs[i].2.length) by omega,dF,bF,iF,q0b (show i<=1000000000 by omega),sErr]
  exact⟨fun _=>rfl,fun h=>absurd rfl h⟩
 |succ d ih=>
  intro k hk
  have hlt:k<xs[i].2.length:=by omega
  have ih':=ih (k+1) (by omega)
  rw[w0U hlt]at ih'
  rw[K0R,List.drop_eq_getElem_cons hlt]
  simp only[j0P (q0a hi),oS,cell_uIs,len_uIs,show((k:Int)<xs[i].2.length) by omega,dY,iT,w1x (b:=xs[i].1) ha hxi hlt,toU_val,asI_c,q0b (show k<=1000000000 by omega),sErr]
  by_cases h0:code a (prev xs[i].2 k) xs[i].2[k]=0
  ·simp only[h0,dY,Bool.not_true,bF,iF,iT]
   exact ih'
  ·simp only[h0,dF,Bool.not_false,iT,iF]
   exact⟨fun h=>absurd h h0,fun _=>⟨i,rfl⟩⟩
theorem k1E(hn:xs.length<=1000000)(hx: ∀x∈xs,x.2.length<=1000000){a1 a2:U}: ∀(d k:Nat),k+d=xs.length-> ∃i:Int,y27_3 M a a1 a2 (uLs b3 xs) (k:Int)=some (.tup [uI i,uI (lErr a (xs.drop k))]):=by
 intro d
 induction d with
 |zero=>
  intro k hk
  rw[K0Q,dL (by omega)]
  exact⟨0,by simp[show¬(k<xs.length) by omega,lErr]⟩
 |succ d ih=>
  intro k hk
  have hlt:k<xs.length:=by omega
  obtain⟨i,h1⟩:=ih (k+1) (by omega)
  have h2:=k1D (M:=M) (b3:=b3) (a1:=a1) (a2:=a2) ha hn hx hlt xs[k].2.length 0 (by omega)
  rw[List.drop_zero]at h2
  rw[K0Q,List.drop_eq_getElem_cons hlt]
  simp only[len_uLs,oS,show((k:Int)<xs.length) by omega,dY,iT,lErr]
  by_cases h0:sErr a none xs[k].2=0
  ·rw[if_pos h0]
   refine⟨i, ?_⟩
   have:=h2.1 h0
   rw[show((0:Nat):Int)=0 from rfl]at this
   rw[this];exact h1
  ·rw[if_neg h0]
   exact h2.2 h0
theorem k1F(he:es.length<=1000000){a1:U}: ∀(d k:Nat),k+d=es.length->Goes (y27_2 M a a1 (uEs b2 es) (uLs b3 xs) (k:Int)) (eAll a (es.drop k)) (y27_3 M a a1 (uEs b2 es) (uLs b3 xs) 0):=by
 intro d
 induction d with
 |zero=>
  intro k hk
  rw[K0P,dL (by omega)]
  simp only[len_uEs,oS,show¬((k:Int)<es.length) by omega,dF,bF,iF,X0k]
  exact⟨fun _=>rfl,fun h=>absurd rfl h⟩
 |succ d ih=>
  intro k hk
  have hlt:k<es.length:=by omega
  obtain⟨f,f0,f1,f2,f3,f4⟩:=Q0e es[k]
  have ih':=ih (k+1) (by omega)
  rw[K0P,List.drop_eq_getElem_cons hlt]
  simp only[len_uEs,oS,show((k:Int)<es.length) by omega,dY,iT,K0s (q0a hlt),f0,f1,f2,f3,f4,i_uI,z0A ha,Z0L,toU_val,asB_c,q0b (show k<=1000000000 by omega),Z0x]
  cases h1:btw es[k].f 0 (a - 1)with
  |false=>simp only[Bool.not_false,iT,oS,Bool.true_eq_false,iF,Bool.false_and,bF];exact⟨fun h=>(by cases h),fun _=>⟨k,rfl⟩⟩
  |true=>
   cases h2:btw es[k].t 0 (a - 1)with
   |false=>simp only[Bool.not_true,Bool.not_false,iT,oS,Bool.true_eq_false,iF,Bool.true_and,Bool.false_and,bF];exact⟨fun h=>(by cases h),fun _=>⟨k,rfl⟩⟩
   |true=>
    cases h3:btw es[k].n 0 4095 with
    |false=>simp only[Bool.not_true,Bool.not_false,iT,oS,Bool.true_eq_false,iF,Bool.true_and,Bool.false_and,bF];exact⟨fun h=>(by cases h),fun _=>⟨k,rfl⟩⟩
    |true=>
     cases h4:btw es[k].v 0 4095 with
     |false=>simp only[Bool.not_true,Bool.not_false,iT,oS,Bool.true_eq_false,iF,Bool.true_and,Bool.false_and,bF];exact⟨fun h=>(by cases h),fun _=>⟨k,rfl⟩⟩
     |true=>simp only[Bool.not_true,iT,oS,Bool.true_and,bF,iF];exact ih'
theorem k1G(hl:l.length<=1000000): ∀(d k:Nat),k+d=l.length->Goes (y27_1 M a (uIs b1 l) (uEs b2 es) (uLs b3 xs) (k:Int)) (sErr a (prev l k) (l.drop k)) (y27_2 M a (uIs b1 l) (uEs b2 es) (uLs b3 xs) 0):=by
 intro d
 induction d with
 |zero=>
  intro k hk
  rw[K0O,dL (by omega)]
  simp only[len_uIs,oS,show¬((k:Int)<l.length) by omega,dF,bF,iF,sErr]
  exact⟨fun _=>rfl,fun h=>absurd rfl h⟩
 |succ d ih=>
  intro k hk
  have hlt:k<l.length:=by omega
  have ih':=ih (k+1) (by omega)
  rw[w0U hlt]at ih'
  rw[K0O,List.drop_eq_getElem_cons hlt]
  simp only[len_uIs,oS,show((k:Int)<l.length) by omega,dY,iT,w1x (b:=b1) ha hl hlt,toU_val,asI_c,q0b (show k<=1000000000 by omega),sErr]
  by_cases h0:code a (prev l k) l[k]=0
  ·simp only[h0,dY,Bool.not_true,bF,iF,iT]
   exact ih'
  ·simp only[h0,dF,Bool.not_false,iT,iF]
   exact⟨fun h=>absurd h h0,fun _=>⟨k,rfl⟩⟩
end
section
variable{a:Int}{b1 b2 b3:Bool}{l:List Int}{es:List E4}{xs:List (Bool×List Int)}(hl:l.length<=1000000)(he:es.length<=1000000)(hn:xs.length<=1000000)(hx: ∀x∈xs,x.2.length<=1000000)
include hl he hn hx
theorem Z1Y: ∃i:Int,y27 M a (uIs b1 l) (uEs b2 es) (uLs b3 xs)=some (.tup [uI i,uI (aErr a l es xs)]):=by
 rw[J1B]
 simp only[Z0L,oS,toU_val,asB_c,len_uEs,len_uLs]
 unfold aErr
 by_cases ha:btw a 0 300=true
 ·have hq:(if(decide (6000<(es.length:Int)))=false then some (decide (8<(xs.length:Int)))else some (decide (6000<(es.length:Int))))=some (decide (6000<es.length\/8<xs.length)):=by
   by_cases h1:6000<es.length
   ·have:(6000:Int)<es.length:=by omega
    simp[h1,this]
   ·have: ¬(6000:Int)<es.length:=by omega
    by_cases h2:8<xs.length
    ·have:(8:Int)<xs.length:=by omega
     simp[h1,h2,this]
    ·have h3: ¬(8:Int)<xs.length:=by omega
     simp[h1,h2,this,h3]
  rw[hq]
  simp only[ha,Bool.not_true,bF,iF,iT,oS,dE]
  by_cases hlg:6000<es.length\/8<xs.length
  ·rw[if_pos hlg,if_pos hlg];exact⟨0,rfl⟩
  ·rw[if_neg hlg,if_neg hlg]
   have h1:=k1G (M:=M) (b1:=b1) (b2:=b2) (b3:=b3) (es:=es) (xs:=xs) ha hl l.length 0 (by omega)
   rw[List.drop_zero,show prev l 0=none from rfl,show((0:Nat):Int)=0 from rfl]at h1
   by_cases h0:sErr a none l=0
   ·rw[if_pos h0,h1.1 h0]
    have h2:=k1F (M:=M) (b2:=b2) (b3:=b3) (es:=es) (xs:=xs) (a1:=uIs b1 l) ha he es.length 0 (by omega)
    rw[List.drop_zero,show((0:Nat):Int)=0 from rfl]at h2
    have he3:eAll a es=if es.all (eOK a)=true then 0 else 3:=rfl
    rw[he3]at h2
    by_cases h3:es.all (eOK a)=true
    ·rw[if_pos h3]at h2⊢
     rw[h2.1 rfl]
     have h4:=k1E (M:=M) (b3:=b3) (xs:=xs) (a1:=uIs b1 l) (a2:=uEs b2 es) ha hn hx xs.length 0 (by omega)
     rw[List.drop_zero,show((0:Nat):Int)=0 from rfl]at h4
     exact h4
    ·rw[if_neg h3]at h2⊢
     exact h2.2 (by decide)
   ·rw[if_neg h0];exact h1.2 h0
 ·simp only[Bool.not_eq_true]at ha
  simp only[ha,Bool.not_false,iT,bF,iF]
  exact⟨0,rfl⟩
theorem w1z:y12 M a (uIs b1 l) (uEs b2 es) (uLs b3 xs)=some (.val (uI (aErr a l es xs))):=by
 obtain⟨i,h⟩:=Z1Y (M:=M) (a:=a) (b1:=b1) (b2:=b2) (b3:=b3) hl he hn hx
 rw[J1u]
 simp[h]
theorem Z1Z: ∃i:Int,y25 M a (uIs b1 l) (uEs b2 es) (uLs b3 xs)=some (.tup [uI i,uI (aErr a l es xs)]):=by
 rw[J1A]
 have hq:(if(decide (6000<(es.length:Int)))=false then some (decide (8<(xs.length:Int)))else some (decide (6000<(es.length:Int))))=some (decide (6000<es.length\/8<xs.length)):=by
  by_cases h1:6000<es.length
  ·have:(6000:Int)<es.length:=by omega
   simp[h1,this]
  ·have: ¬(6000:Int)<es.length:=by omega
   by_cases h2:8<xs.length
   ·have:(8:Int)<xs.length:=by omega
    simp[h1,h2,this]
   ·have h3: ¬(8:Int)<xs.length:=by omega
    simp[h1,h2,this,h3]
 have hlit:=fun a b=>J0H (M:=M) [a,b] (by simp)
 simp only[List.map_cons,List.map_nil,uI]at hlit
 simp only[len_uEs,len_uLs,oS]
 rw[hq]
 simp only[oS,j1L,toU_val,asB_c,j1M,asI_c,hlit,dE]
 unfold aErr
 by_cases ha:btw a 0 300=true
 ·by_cases hlg:6000<es.length\/8<xs.length
  ·simp only[ha,Bool.not_true,bF,iF,if_pos hlg,firstErr,iT]
   exact⟨0,rfl⟩
  ·simp only[ha,Bool.not_true,bF,iF,if_neg hlg,firstErr,iT,dY]
   obtain⟨i,h1⟩:=w1y (M:=M) (b:=b1) ha hl
   simp only[h1,oS,asTup_tup,List.getElem?_cons_zero,List.getElem?_cons_succ,asI_c]
   by_cases h0:sErr a none l=0
   ·simp only[h0,dY,Bool.not_true,bF,iF,iT]
    have h2:=k1C (M:=M) (b2:=b2) (b3:=b3) (es:=es) (xs:=xs) (a1:=uIs b1 l) (a3:=uLs b3 xs) ha he es.length 0 (by omega)
    rw[List.drop_zero,show((0:Nat):Int)=0 from rfl]at h2
    have he3:eAll a es=if es.all (eOK a)=true then 0 else 3:=rfl
    rw[he3]at h2
    by_cases h3:es.all (eOK a)=true
    ·rw[if_pos h3]at h2⊢
     rw[h2.1 rfl]
     have h4:=k1B (M:=M) (b3:=b3) (xs:=xs) (a1:=uIs b1 l) (a2:=uEs b2 es) (a3:=uLs b3 xs) ha hn hx xs.length 0 (by omega)
     rw[List.drop_zero,show((0:Nat):Int)=0 from rfl]at h4
     exact h4
    ·rw[if_neg h3]at h2⊢
     exact h2.2 (by decide)
   ·simp only[h0,dF,Bool.not_false,iT,iF]
    exact⟨i,rfl⟩
 ·simp only[Bool.not_eq_true]at ha
  simp only[ha,Bool.not_false,iT,bF,iF,firstErr]
  exact⟨0,rfl⟩
theorem K1a:y36 M a (uIs b1 l) (uEs b2 es) (uLs b3 xs)=some (.val (uI (aErr a l es xs))):=by
 obtain⟨i,h⟩:=Z1Z (M:=M) (a:=a) (b1:=b1) (b2:=b2) (b3:=b3) hl he hn hx
 rw[J1D]
 simp[h]
theorem K1b{b4 b5:Bool}{w v:List Int}(hw:w.length+v.length<=1000000):y45 M a (uIs b1 l) (uEs b2 es) (uLs b3 xs) (uIs b4 w) (uIs b5 v)=some (.val (uI (if aErr a l es xs=0 then wErr w v else aErr a l es xs))):=by
 rw[J1J]
 have hlit:=fun a b=>J0H (M:=M) [a,b] (by simp)
 simp only[List.map_cons,List.map_nil,uI]at hlit
 simp only[K1a hl he hn hx,Z1k hw,oS,toU_val,asI_c,hlit,firstErr]
 by_cases h:aErr a l es xs=0
 ·by_cases h2:wErr w v=0<;>simp[h,h2]
 ·simp[h]
end
end
section
variable{M:YM}
theorem q1i{a b:Nat}(ha:a<4096)(hb:b<4096):bitI .and .i64 (a:Int) (b:Int)=((a&&& b:Nat):Int):=by
 have h1:BitVec.ofInt 64 (a:Int)=BitVec.ofNat 64 a:=by simp
 have h2:BitVec.ofInt 64 (b:Int)=BitVec.ofNat 64 b:=by simp
 have h3:a&&& b<=a:=Nat.and_le_left
 unfold bitI
 show IntKind.wrap .i64 (((BitVec.ofInt 64 (a:Int))&&& (BitVec.ofInt 64 (b:Int))).toNat:Int)=_
 rw[h1,h2,BitVec.toNat_and,BitVec.toNat_ofNat,BitVec.toNat_ofNat]
 rw[Nat.mod_eq_of_lt (show a<2 ^ 64 by omega),Nat.mod_eq_of_lt (show b<2 ^ 64 by omega)]
 exact q0e (by omega) (by omega)
theorem Z1A{a k:Nat}(hk:k<64):y81 M (a:Int) (k:Int)=some (.val (.c (.bool (a.testBit k)))):=by
 rw[J1X]
 have h1:shI .shr .i64 (a:Int) (k:Int)=((a / 2 ^ k:Nat):Int):=by
  unfold shI
  simp only[iN,show IntKind.bits .i64=64 from rfl,Nat.min_eq_left (show k<=64 by omega)]
  rw[Int.fdiv_eq_ediv_of_nonneg _ (Int.le_of_lt (Int.pow_pos (by omega)))]
  simp
 rw[if_neg (by omega),h1,show(2:Int)=((2:Nat):Int)from rfl,z0E,Nat.testBit_eq_decide_div_mod_eq]
 congr 4
 simp only[decide_eq_decide]
 omega
def okBit(n v c k:Nat):Bool:= !((n.testBit k&& !c.testBit k)||(v.testBit k&&c.testBit k))
def okBits(n v c:Nat):Nat->Nat->Bool
 | 0,_=>true
 |d+1,k=>okBit n v c k&&okBits n v c d (k+1)
theorem z1W{n v c:Nat}{f t:Int}: ∀(d k:Nat),k+d=12->y43_1 M (c:Int) f t (n:Int) (v:Int) (k:Int)=some (.val (.c (.bool (okBits n v c d k)))):=by
 intro d
 induction d with
 |zero=>
  intro k hk
  rw[K0T]
  simp only[show¬((k:Int)<12) by omega,dF,bF,iF,okBits]
 |succ d ih=>
  intro k hk
  rw[K0T]
  simp only[show((k:Int)<12) by omega,dY,iT,Z1A (show k<64 by omega),oS,toU_val,asB_c,q0b (show k<=1000000000 by omega),ih (k+1) (by omega),okBits,okBit]
  cases n.testBit k<;>cases c.testBit k<;>cases v.testBit k<;>simp
theorem Q0x(n v c:Nat): ∀(d k:Nat),okBits n v c d k=true↔ ∀j,k<=j->j<k+d->okBit n v c j=true
 | 0,k=>by simp[okBits];omega
 |d+1,k=>by
  simp only[okBits,bA,Q0x n v c d (k+1)]
  constructor
  ·rintro⟨h1,h2⟩ j hj hj2
   by_cases h:j=k
   ·rw[h];exact h1
   ·exact h2 j (by omega) (by omega)
  ·intro h
   exact⟨h k (by omega) (by omega),fun j hj hj2=>h j (by omega) (by omega)⟩
def rdI(e:E4)(c:Int):Bool:=decide (bitI .and .i64 c e.n=e.n)&&decide (bitI .and .i64 c e.v=0)
theorem q1j{n v c:Nat}(hn:n<4096)(hv:v<4096)(hc:c<4096):okBits n v c 12 0=(decide (bitI .and .i64 (c:Int) (n:Int)=(n:Int))&&decide (bitI .and .i64 (c:Int) (v:Int)=0)):=by
 rw[q1i hc hn,q1i hc hv,Bool.eq_iff_iff,Q0x]
 simp only[bA,dE]
 have big: ∀{x j:Nat},x<4096->12<=j->x.testBit j=false:=fun{x j} hx hj=>Nat.testBit_lt_two_pow (nL hx (show 2 ^ 12<=2 ^ j from Nat.pow_le_pow_right (by omega) hj))
 constructor
 ·intro h
  refine⟨?_, ?_⟩
  ·have:c&&& n=n:=by
    refine Nat.eq_of_testBit_eq fun j=> ?_
    rw[Nat.testBit_and]
    by_cases hj:j<12
    ·have:=h j (by omega) (by omega)
     revert this
     unfold okBit
     cases n.testBit j<;>cases c.testBit j<;>cases v.testBit j<;>simp
    ·rw[big hn (by omega)];simp
   exact_mod_cast this
  ·have:c&&& v=0:=by
    refine Nat.eq_of_testBit_eq fun j=> ?_
    rw[Nat.testBit_and,Nat.zero_testBit]
    by_cases hj:j<12
    ·have:=h j (by omega) (by omega)
     revert this
     unfold okBit
     cases n.testBit j<;>cases c.testBit j<;>cases v.testBit j<;>simp
    ·rw[big hv (by omega)];simp
   exact_mod_cast this
 ·rintro⟨h1,h2⟩ j _ _
  have h1':c&&& n=n:=by exact_mod_cast h1
  have h2':c&&& v=0:=by exact_mod_cast h2
  have k1:(c.testBit j&&n.testBit j)=n.testBit j:=by rw[<-Nat.testBit_and,h1']
  have k2:(c.testBit j&&v.testBit j)=false:=by rw[<-Nat.testBit_and,h2',Nat.zero_testBit]
  unfold okBit
  revert k1 k2
  cases n.testBit j<;>cases c.testBit j<;>cases v.testBit j<;>simp
theorem K0d{n:Int}(h:btw n 0 4095=true): ∃m:Nat,n=m/\m<4096:=by
 simp only[btw,dE]at h
 exact⟨n.toNat,by omega,by omega⟩
theorem w1l{e:E4}{c:Int}(h1:btw e.n 0 4095=true)(h2:btw e.v 0 4095=true)(h3:btw c 0 4095=true):y43 M e.f e.t e.n e.v c=some (.val (.c (.bool (rdI e c)))):=by
 obtain⟨n,hn,hn'⟩:=K0d h1
 obtain⟨v,hv,hv'⟩:=K0d h2
 obtain⟨m,hm,hm'⟩:=K0d h3
 rw[J1I,rdI,hn,hv,hm]
 rw[<-q1j hn' hv' hm']
 exact z1W 12 0 rfl
theorem Z1B(e:E4)(c:Int):y60 M e.f e.t e.n e.v c=some (.val (.c (.bool (rdI e c)))):=by
 rw[J1T,rdI]
 by_cases h:bitI .and .i64 c e.n=e.n<;>simp[h]
def edge(s t c:Int)(e:E4):Bool:=decide (e.f=s)&&decide (e.t=t)&&rdI e c
theorem z1X{b:Bool}{es:List E4}(he:es.length<=1000000){a s t c:Int}{a1 a3:U}(hok:es.all (eOK a)=true)(hc:btw c 0 4095=true){x2 x3:Int}: ∀(d k:Nat),k+d=es.length->y50_1 M c a a1 (uEs b es) a3 s t x2 x3 (k:Int)=some (.val (.c (.bool ((es.drop k).any (edge s t c))))):=by
 intro d
 induction d with
 |zero=>
  intro k hk
  rw[K0X,dL (by omega)]
  simp only[len_uEs,oS,show¬((k:Int)<es.length) by omega,dF,bF,iF,List.any_nil]
 |succ d ih=>
  intro k hk
  have hlt:k<es.length:=by omega
  obtain⟨f,f0,f1,f2,f3,f4⟩:=Q0e es[k]
  have ho:eOK a es[k]=true:=List.all_eq_true.1 hok _ (lM hlt)
  simp only[eOK,bA]at ho
  have c0:U.cell (uE es[k]) 0=some (uI es[k].f):=rfl
  have c1:U.cell (uE es[k]) 1=some (uI es[k].t):=rfl
  rw[K0X,List.drop_eq_getElem_cons hlt]
  simp only[len_uEs,oS,show((k:Int)<es.length) by omega,dY,iT,K0s (q0a hlt),c0,c1,asI_uI,f0,f1,f2,f3,f4,i_uI,w1l ho.1.2 ho.2 hc,toU_val,asB_c,q0b (show k<=1000000000 by omega),ih (k+1) (by omega),List.any_cons,edge]
  by_cases h1:es[k].f=s
  ·by_cases h2:es[k].t=t
   ·cases h3:rdI es[k] c<;>simp[h1,h2, -List.getElem_cons_drop]
   ·simp[h1,h2, -List.getElem_cons_drop]
  ·simp[h1, -List.getElem_cons_drop]
theorem Z1C{b:Bool}{es:List E4}(he:es.length<=1000000){a s t c:Int}{a1 a3:U}(hok:es.all (eOK a)=true)(hc:btw c 0 4095=true):y50 M a a1 (uEs b es) a3 s t 0 0 c=some (.val (.c (.bool (es.any (edge s t c))))):=by
 rw[J1M]
 have:=z1X (M:=M) (b:=b) (a1:=a1) (a3:=a3) (s:=s) (t:=t) (x2:=0) (x3:=0) he hok hc es.length 0 (by omega)
 rw[List.drop_zero,show((0:Nat):Int)=0 from rfl]at this
 exact this
theorem Z1D{n:Nat}(hn:n<=1000000): ∃s:Sx,y89 M (.sl false []) (n:Int)=some (.sl s)/\s.es=[]/\(s.b=true->s.sz=1):=by
 rw[Z1c,z1v]
 simp only[show¬((n:Int)<0) by omega,dF,bF,iF,U.isNilSl,iT,U.len,U.asL,Option.map_some,oS,List.length_nil]
 have hw:IntKind.wrap .i64 (0 - ((0:Nat):Int))=0:=q0e (by omega) (by omega)
 have hw2:IntKind.wrap .i64 ((n:Int) - 0)=n:=by rw[Int.sub_zero];exact q0e (by omega) (by omega)
 rw[hw,hw2]
 by_cases h:0<n
 ·have hsub:U.sub 1 (.sl false []) 0 (some 0)=some (.sl false []):=rfl
  have hsub2:subU 1 (List.replicate (n:Int).toNat (.c (.int .i64 0))) 0 (some ((0:Nat):Int))=some []:=by
   unfold subU
   rw[if_pos]
   ·simp
   ·refine⟨by omega,by simp,by simp, ?_⟩
    rw[List.all_eq_true]
    intro x hx
    rw[List.eq_of_mem_replicate hx];rfl
  simp only[show((0:Int)<n) by omega,dY,iT,hsub,oS,show(0:Int)<(n:Int)/\(n:Int)<=2 ^ 36/\1=1 from⟨by omega,by omega,rfl⟩,true_and,hsub2,and_self]
  rw[z1w]
  refine⟨Sx.win ⟨true,1,List.replicate (n:Int).toNat (.c (.int .i64 0))⟩ ((0:Int).toNat) (0:Nat), ?_, ?_,fun _=>rfl⟩
  ·rw[if_pos]
   ·rfl
   ·simp[Sx.win,scals]
  ·simp[Sx.win]
 ·have:n=0:=by omega
  subst this
  simp only[show¬((0:Int)<((0:Nat):Int)) by omega,dF,bF,iF]
  rw[Y0K]
  simp only[U.isNilSl,iT,oS]
  exact⟨.nil,by simp[Sx.nil,scals],rfl,fun h=>by cases h⟩
theorem Z1E{b1 b2:Bool}{l r:List Int}(hn:l.length+r.length<=1000000): ∃s:Sx,y54 M (Sx.fz (⟨true,1,[uIs b1 l,uIs b2 r]⟩:Sx))=some (.sl s)/\s.es=(l++r).map uI/\(s.es≠[]->s.sz=1):=by
 obtain⟨s0,h0,h1,h2⟩:=Z1D (M:=M) (n:=l.length+r.length) (by omega)
 have hu: ∀(k:Nat) (x:Bool×List Int),[(b1,l),(b2,r)][k]? =some x->U.idx 1 (Sx.fz (⟨true,1,[uIs b1 l,uIs b2 r]⟩:Sx)) (k:Int)=some (uIs x.1 x.2):=fun k x hx=>j0P (b:=true) (l:=[(b1,l),(b2,r)]) hx
 have hlen:U.len (Sx.fz (⟨true,1,[uIs b1 l,uIs b2 r]⟩:Sx))=some 2:=rfl
 have i0:=hu 0 _ rfl
 have i1:=hu 1 _ rfl
 rw[show((0:Nat):Int)=0 from rfl]at i0
 rw[show((1:Nat):Int)=1 from rfl]at i1
 have w1:IntKind.wrap .i64 ((0:Int)+1)=1:=q0e (by omega) (by omega)
 have w2:IntKind.wrap .i64 ((1:Int)+1)=2:=q0e (by omega) (by omega)
 have w3:IntKind.wrap .i64 ((0:Int)+(l.length:Int))=l.length:=by rw[Int.zero_add];exact q0e (by omega) (by omega)
 have w4:IntKind.wrap .i64 ((l.length:Int)+(r.length:Int))=((l.length+r.length:Nat):Int):=by rw[q0e (by omega) (by omega)];simp
 have sz: ∀x∈(l.map uI),x.size=1:=by intro x hx;obtain⟨n,_,rfl⟩:=List.mem_map.1 hx;rfl
 have sz': ∀x∈(r.map uI),x.size=1:=by intro x hx;obtain⟨n,_,rfl⟩:=List.mem_map.1 hx;rfl
 have app: ∀(s:Sx) (xs:List U),(∀x∈xs,x.size=1)->s.es.length+xs.length<=1000000->(s.b=false->s.es=[])->(s.b=true->s.sz=1)-> ∃t:Sx,Sx.app s 1 xs=some t/\t.es=s.es++xs/\(t.b=true->t.sz=1)/\(t.b=false->t.es=[]):=by
  intro s xs hs hl hb hz
  unfold Sx.app
  rw[if_pos]
  ·split
   ·rename_i hc;exact⟨s,rfl,by rw[hc.2];simp,hz,hb⟩
   ·exact⟨_,rfl,rfl,fun _=>rfl,fun h=>by cases h⟩
  ·refine⟨?_,List.all_eq_true.2 fun x hx=>by simp[hs x hx], ?_⟩
   ·cases hsb:s.b with
    |false=>exact .inl rfl
    |true=>exact .inr (hz hsb)
   ·show _<=_
    omega
 obtain⟨t1,a1,a2,a3,a4⟩:=app s0 (l.map uI) sz (by rw[h1];simp;omega) (fun _=>h1) h2
 obtain⟨t2,c1,c2,c3,c4⟩:=app t1 (r.map uI) sz' (by rw[a2,h1];simp;omega) a4 a3
 have e2:t2.es=(l++r).map uI:=by rw[c2,a2,h1];simp
 refine⟨t2, ?_,e2,fun hne=> ?_⟩
 ·rw[J1Q,hlen]
  simp only[oS]
  rw[Q0T]
  simp only[show((0:Int)<((2:Nat):Int)) by omega,dY,iT,i0,oS,cell_uIs,len_uIs,w3,show¬((l.length:Int)<0) by omega,dF,bF,iF]
  rw[K0Z,w1,Q0T]
  simp only[show((1:Int)<((2:Nat):Int)) by omega,dY,iT,i1,oS,cell_uIs,len_uIs,w4,show¬(((l.length+r.length:Nat):Int)<0) by omega,dF,bF,iF]
  rw[K0Z,w2,Q0T]
  simp only[show¬((2:Int)<((2:Nat):Int)) by omega,dF,bF,iF,h0,oS,asSl_sl,hlen]
  rw[Q0U]
  simp only[show((0:Int)<((2:Nat):Int)) by omega,dY,iT,i0,oS,cell_uIs]
  simp only[uIs,U.asL,oS,a1,w1]
  rw[Q0U]
  simp only[uIs]at i1
  simp only[show((1:Int)<((2:Nat):Int)) by omega,dY,iT,i1,oS,U.cell,U.cells,List.getElem?_cons_zero,U.asL,c1,w2]
  rw[Q0U]
  simp only[show¬((2:Int)<((2:Nat):Int)) by omega,dF,bF,iF]
  rw[if_pos]
  rw[e2];exact Q0q _
 ·cases hb:t2.b with
  |true=>exact c3 hb
  |false=>exact absurd (c4 hb) hne
end
section
variable{M:YM}
def acc(xs:List (Bool×List Int))(r1:List Int)(k:Nat):Bool:=r1.any fun n=>decide (n∈(xs.getD k (false,[])).2)
def pAc(xs:List (Bool×List Int))(r1:List Int):Nat->Nat->Int×Int
 | 0,_=>(0,0)
 |d+1,k=>if acc xs r1 k=true then pAc xs r1 d (k+1)else(k,25)
def goE(es:List E4)(all:List Int)(m:Nat)(w0 w1:List Int)(k:Nat):Bool:=es.any (edge (at0 all k) (at0 all (if k+1<all.length then k+1 else m)) (letr w0 w1 k))
def pEd(es:List E4)(all:List Int)(m:Nat)(w0 w1:List Int)(z:Int×Int):Nat->Nat->Int×Int
 | 0,_=>z
 |d+1,k=>if goE es all m w0 w1 k=true then pEd es all m w0 w1 z d (k+1)else(k,10)
def pSt(a:Int)(all:List Int)(z:Int×Int):Nat->Nat->Int×Int
 | 0,_=>z
 |d+1,k=>if btw (at0 all k) 0 (a - 1)=true then pSt a all z d (k+1)else(k,3)
def res(p:Int×Int):YRs:=some (.tup [uI p.1,uI p.2])
def shapeBad(w0 w1 r0 r1:List Int):Bool:=decide (r0.length<w0.length\/(r0.length - w0.length) % w1.length≠0\/r1.length % w1.length≠0)
def chk(a:Int)(l:List Int)(es:List E4)(xs:List (Bool×List Int))(w0 w1 r0 r1:List Int):Int×Int:=
 if aErr a l es xs=0 then
  if wErr w0 w1=0 then
   if r1.length=0 then(0,1)
   else if 20000<r0.length+r1.length then(0,2)
   else if shapeBad w0 w1 r0 r1=true then(0,6)
   else pSt a (r0++r1) (if at0 (r0++r1) 0∈l then pEd es (r0++r1) r0.length w0 w1 (pAc xs r1 xs.length 0) (r0.length+r1.length) 0 else(0,30)) (r0.length+r1.length) 0
  else(0,wErr w0 w1)
 else(0,aErr a l es xs)
theorem J0l{w0 w1:List Int}{k:Nat}(h1:0<w1.length)(h:(w0++w1).all ltr=true):btw (letr w0 w1 k) 0 4095=true:=by
 have hm: ∀(l:List Int) (i:Nat),i<l.length->at0 l i∈l:=by
  intro l i hi
  unfold at0
  rw[lG,q0a hi]
  exact lM hi
 have:letr w0 w1 k∈w0++w1:=by
  unfold letr
  split
  ·rename_i hk;exact List.mem_append_left _ (hm _ _ hk)
  ·exact List.mem_append_right _ (hm _ _ (Nat.mod_lt _ h1))
 exact List.all_eq_true.1 h _ this
section
variable{a:Int}{b1 b2 b3 b4 b5 b6 b7:Bool}{l:List Int}{es:List E4}{xs:List (Bool×List Int)}{w0 w1 r0 r1:List Int}
theorem k1g(h:aErr a l es xs=0):btw a 0 300=true/\es.all (eOK a)=true:=by
 unfold aErr at h
 split at h
 ·rename_i h1
  refine⟨h1, ?_⟩
  split at h
  ·cases h
  ·split at h
   ·split at h
    ·assumption
    ·cases h
   ·rename_i h2;exact absurd h h2
 ·cases h
theorem q1A(h:wErr w0 w1=0):0<w1.length/\(w0++w1).all ltr=true/\w0.length+w1.length<=60:=by
 unfold wErr at h
 split at h
 ·cases h
 ·split at h
  ·cases h
  ·split at h
   ·rename_i h1 h2 h3;exact⟨by omega,h3,by omega⟩
   ·cases h
theorem k1h(hr:r0.length+r1.length<=1000000)(hn:xs.length<=1000000)(hx: ∀x∈xs,x.2.length<=1000000){a1 a2:U}{k:Nat}(hk:k<xs.length): ∀(d i:Nat) (m:Bool),i+d=r1.length->
  y22_4 M a a1 a2 (uLs b3 xs) (uIs b6 r0) (uIs b7 r1) (k:Int) m (i:Int)=if(m||(r1.drop i).any fun n=>decide (n∈(xs.getD k (false,[])).2))=true then y22_3 M a a1 a2 (uLs b3 xs) (uIs b6 r0) (uIs b7 r1) ((k+1:Nat):Int)else res (k,25):=by
 have hxk:xs.getD k (false,[])=xs[k]:=by rw[lG,q0a hk];rfl
 have hl:=hx _ (lM hk)
 intro d
 induction d with
 |zero=>
  intro i m hi
  rw[K0L,dL (by omega)]
  simp only[len_uIs,oS,show¬((i:Int)<r1.length) by omega,dF,bF,iF,List.any_nil,Bool.or_false,q0b (show k<=1000000000 by omega)]
  cases m<;>rfl
 |succ d ih=>
  intro i m hi
  have hlt:i<r1.length:=by omega
  rw[K0L,List.drop_eq_getElem_cons hlt]
  simp only[len_uIs,oS,show((i:Int)<r1.length) by omega,dY,iT,q0b (show i<=1000000000 by omega),j0P (q0a hk),q0L (q0a hlt),cell_uIs,cell_c,asI_c,w1G r1[i] hl,toU_val,asB_c]
  cases m with
  |true=>simp only[Bool.true_eq_false,iF,oS,ih (i+1) _ (by omega),Bool.true_or,iT]
  |false=>simp only[iT,oS,ih (i+1) _ (by omega),Bool.false_or,List.any_cons,hxk]
theorem k1i(hr:r0.length+r1.length<=1000000)(hn:xs.length<=1000000)(hx: ∀x∈xs,x.2.length<=1000000){a1 a2:U}: ∀(d k:Nat),k+d=xs.length->y22_3 M a a1 a2 (uLs b3 xs) (uIs b6 r0) (uIs b7 r1) (k:Int)=res (pAc xs r1 d k):=by
 intro d
 induction d with
 |zero=>
  intro k hk
  rw[K0K]
  simp only[len_uLs,oS,show¬((k:Int)<xs.length) by omega,dF,bF,iF]
  rfl
 |succ d ih=>
  intro k hk
  have h4:=k1h (M:=M) (a:=a) (b3:=b3) (b6:=b6) (b7:=b7) (a1:=a1) (a2:=a2) hr hn hx (show k<xs.length by omega) r1.length 0 false (by omega)
  rw[show((0:Nat):Int)=0 from rfl]at h4
  rw[K0K]
  simp only[len_uLs,oS,show((k:Int)<xs.length) by omega,dY,iT,h4,ih (k+1) (by omega),List.drop_zero,Bool.false_or,pAc]
  have hg:(r1.any fun n=>decide (n∈(xs.getD k (false,[])).2))=acc xs r1 k:=rfl
  rw[hg]
  cases acc xs r1 k<;>simp[res]
theorem k1j(hr:r0.length+r1.length<=1000000)(he:es.length<=1000000)(hn:xs.length<=1000000)(hx: ∀x∈xs,x.2.length<=1000000)(hok:es.all (eOK a)=true)(hw1:0<w1.length)(hw:(w0++w1).all ltr=true)(hwl:w0.length+w1.length<=1000000)(hr1:0<r1.length){a1:U}: ∀(d k:Nat),k+d=r0.length+r1.length->y22_2 M a a1 (uEs b2 es) (uLs b3 xs) (uIs b4 w0) (uIs b5 w1) (uIs b6 r0) (uIs b7 r1) ((r0.length+r1.length:Nat):Int) (k:Int)=res (pEd es (r0++r1) r0.length w0 w1 (pAc xs r1 xs.length 0) d k):=by
 intro d
 induction d with
 |zero=>
  intro k hk
  have h3:=k1i (M:=M) (a:=a) (b3:=b3) (b6:=b6) (b7:=b7) (r0:=r0) (r1:=r1) (xs:=xs) (a1:=a1) (a2:=uEs b2 es) hr hn hx xs.length 0 (by omega)
  rw[show((0:Nat):Int)=0 from rfl]at h3
  rw[K0J]
  simp only[show¬((k:Int)<((r0.length+r1.length:Nat):Int)) by omega,dF,bF,iF,h3,pEd]
 |succ d ih=>
  intro k hk
  have hn':(if k+1<r0.length+r1.length then k+1 else r0.length)<r0.length+r1.length:=by split<;>omega
  rw[K0J]
  simp only[show((k:Int)<((r0.length+r1.length:Nat):Int)) by omega,dY,iT,W0q (M:=M) (b1:=b6) (b2:=b7) (show k<r0.length+r1.length by omega) hr,Z1j (M:=M) (b1:=b6) (b2:=b7) (show k<r0.length+r1.length by omega) hr,oS,toU_val,asI_c,
   W0q (M:=M) (b1:=b6) (b2:=b7) hn' hr,Y0N (M:=M) (b1:=b4) (b2:=b5) (l:=w0) hw1 hwl (show k<=1000000 by omega),Z1C (M:=M) (b:=b2) (a1:=a1) (a3:=uLs b3 xs) he hok (J0l (k:=k) hw1 hw),asB_c,q0b (show k<=1000000000 by omega),ih (k+1) (by omega),pEd]
  have hg:es.any (edge (at0 (r0++r1) k) (at0 (r0++r1) (if k+1<r0.length+r1.length then k+1 else r0.length)) (letr w0 w1 k))=goE es (r0++r1) r0.length w0 w1 k:=by simp only[goE,List.length_append]
  rw[hg]
  cases goE es (r0++r1) r0.length w0 w1 k<;>simp[res]
theorem k1k(hl:l.length<=1000000)(hr:r0.length+r1.length<=1000000)(he:es.length<=1000000)(hn:xs.length<=1000000)(hx: ∀x∈xs,x.2.length<=1000000)(ha:btw a 0 300=true)(hok:es.all (eOK a)=true)(hw1:0<w1.length)(hw:(w0++w1).all ltr=true)(hwl:w0.length+w1.length<=1000000)(hr1:0<r1.length): ∀(d k:Nat),k+d=r0.length+r1.length->
  y22_1 M a (uIs b1 l) (uEs b2 es) (uLs b3 xs) (uIs b4 w0) (uIs b5 w1) (uIs b6 r0) (uIs b7 r1) ((r0.length+r1.length:Nat):Int) (k:Int)=res (pSt a (r0++r1) (if at0 (r0++r1) 0∈l then pEd es (r0++r1) r0.length w0 w1 (pAc xs r1 xs.length 0) (r0.length+r1.length) 0 else(0,30)) d k):=by
 intro d
 induction d with
 |zero=>
  intro k hk
  have h3:=k1j (M:=M) (b2:=b2) (b3:=b3) (b4:=b4) (b5:=b5) (b6:=b6) (b7:=b7) (a1:=uIs b1 l) hr he hn hx hok hw1 hw hwl hr1 (r0.length+r1.length) 0 (by omega)
  have h0:=W0q (M:=M) (b1:=b6) (b2:=b7) (l:=r0) (r:=r1) (i:=0) (by omega) hr
  rw[show((0:Nat):Int)=0 from rfl]at h0 h3
  rw[K0I]
  simp only[show¬((k:Int)<((r0.length+r1.length:Nat):Int)) by omega,dF,bF,iF,h0,oS,toU_val,asI_c,w1G _ hl,asB_c,h3,pSt]
  by_cases h:at0 (r0++r1) 0∈l
  ·simp[h]
  ·simp[h,res]
 |succ d ih=>
  intro k hk
  rw[K0I]
  simp only[show((k:Int)<((r0.length+r1.length:Nat):Int)) by omega,dY,iT,W0q (M:=M) (b1:=b6) (b2:=b7) (show k<r0.length+r1.length by omega) hr,oS,toU_val,asI_c,Z0L,z0A ha,asB_c,q0b (show k<=1000000000 by omega),ih (k+1) (by omega),pSt]
  cases btw (at0 (r0++r1) k) 0 (a - 1)<;>simp[res]
theorem Q1I(hw1:0<w1.length)(hr:r0.length+r1.length<=1000000)(hw:w0.length+w1.length<=1000000){F:Bool->YRs}:
  ((
   if(decide (((r0.length:Nat):Int)<((w0.length:Nat):Int)))=false then
   (if((w1.length:Nat):Int)=0 then none else some (!decide ((Int.tmod (IntKind.wrap .i64 (((r0.length:Nat):Int) - ((w0.length:Nat):Int))) ((w1.length:Nat):Int))=0)))
   else some (decide (((r0.length:Nat):Int)<((w0.length:Nat):Int)))).bind fun q15=>
   (if q15=false then(if((w1.length:Nat):Int)=0 then none else some (!decide ((Int.tmod ((r1.length:Nat):Int) ((w1.length:Nat):Int))=0)))else some q15).bind F)=F (shapeBad w0 w1 r0 r1):=by
 have h0: ¬((w1.length:Nat):Int)=0:=by omega
 simp only[h0,iF,z0E]
 unfold shapeBad
 by_cases h1:r0.length<w0.length
 ·have:((r0.length:Nat):Int)<((w0.length:Nat):Int):=by omega
  simp[this,h1]
 ·have h2: ¬((r0.length:Nat):Int)<((w0.length:Nat):Int):=by omega
  have hwr:IntKind.wrap .i64 (((r0.length:Nat):Int) - ((w0.length:Nat):Int))=((r0.length - w0.length:Nat):Int):=by rw[q0e (by omega) (by omega)];omega
  simp only[h2,dF,iT,hwr,z0E,oS]
  by_cases h3:(r0.length - w0.length) % w1.length=0
  ·have:((((r0.length - w0.length) % w1.length:Nat):Nat):Int)=0:=by omega
   by_cases h4:r1.length % w1.length=0
   ·have h5:(((r1.length % w1.length:Nat):Nat):Int)=0:=by omega
    simp[h1,h3,h4]
   ·have h5: ¬(((r1.length % w1.length:Nat):Nat):Int)=0:=by omega
    have h6: ¬((r1.length:Int) % (w1.length:Int)=0):=by rw[show((r1.length:Int) % (w1.length:Int))=((r1.length % w1.length:Nat):Int) by simp];exact h5
    simp[h1,h3,h4,h6]
  ·have: ¬((((r0.length - w0.length) % w1.length:Nat):Nat):Int)=0:=by omega
   simp only[this,dF,Bool.not_false,Bool.true_eq_false,iF,oS,h1,h3,ne_eq,not_false_eq_true,true_or,or_true,dY]
theorem Z1P(hl:l.length<=1000000)(hr:r0.length+r1.length<=1000000)(he:es.length<=1000000)(hn:xs.length<=1000000)(hx: ∀x∈xs,x.2.length<=1000000)(hwl:w0.length+w1.length<=1000000):
  y22 M a (uIs b1 l) (uEs b2 es) (uLs b3 xs) (uIs b4 w0) (uIs b5 w1) (uIs b6 r0) (uIs b7 r1)=res (chk a l es xs w0 w1 r0 r1):=by
 rw[J1z]
 simp only[w1z hl he hn hx,oS,toU_val,asI_c,w1b hwl,len_uIs]
 unfold chk
 by_cases h1:aErr a l es xs=0
 ·obtain⟨ha,hok⟩:=k1g h1
  by_cases h2:wErr w0 w1=0
  ·obtain⟨hw1,hw,_⟩:=q1A h2
   have hwr:IntKind.wrap .i64 (((r0.length:Nat):Int)+((r1.length:Nat):Int))=((r0.length+r1.length:Nat):Int):=by rw[q0e (by omega) (by omega)];simp
   simp only[h1,h2,dY,Bool.not_true,bF,iF,iT,hwr]
   by_cases h3:r1.length=0
   ·simp[h3,res]
   ·simp only[show¬(((r1.length:Nat):Int)=0) by omega,dF,bF,iF,h3]
    by_cases h4:20000<r0.length+r1.length
    ·have:(20000:Int)<((r0.length+r1.length:Nat):Int):=by omega
     simp only[this,dY,iT,h4]
     rfl
    ·have: ¬(20000:Int)<((r0.length+r1.length:Nat):Int):=by omega
     simp only[this,h4,dF,bF,iF]
     rw[Q1I hw1 hr hwl]
     by_cases h5:shapeBad w0 w1 r0 r1=true
     ·simp[h5,res]
     ·rw[if_neg h5,if_neg h5]
      have:=k1k (M:=M) (b1:=b1) (b2:=b2) (b3:=b3) (b4:=b4) (b5:=b5) (b6:=b6) (b7:=b7) hl hr he hn hx ha hok hw1 hw hwl (by omega) (r0.length+r1.length) 0 (by omega)
      rw[show((0:Nat):Int)=0 from rfl]at this
      exact this
  ·simp[h1,h2,res]
 ·simp[h1,res]
end
end
section
variable{M:YM}
section
variable{a:Int}{b1 b2 b3 b4 b5 b6 b7:Bool}{l:List Int}{es:List E4}{xs:List (Bool×List Int)}{w0 w1 r0 r1:List Int}
variable{all:Sx}(ha1:all.es=(r0++r1).map uI)(ha2:all.es≠[]->all.sz=1)
include ha1 ha2
omit ha1 ha2
theorem Q1A{a1 a2:U}(hn:xs.length<=1000000): ∀(d k:Nat),k+d=xs.length->y9_1 M a a1 a2 (uLs b3 xs) (k:Int)=some (.val (.c (.bool ((xs.drop k).all fun x=>decide (x.2.length<=40))))):=by
 intro d
 induction d with
 |zero=>
  intro k hk
  rw[Y0G,dL (by omega)]
  simp only[len_uLs,oS,show¬((k:Int)<xs.length) by omega,dF,bF,iF,List.all_nil]
 |succ d ih=>
  intro k hk
  have hlt:k<xs.length:=by omega
  rw[Y0G,List.drop_eq_getElem_cons hlt]
  simp only[len_uLs,oS,show((k:Int)<xs.length) by omega,dY,iT,j0P (q0a hlt),cell_uIs,len_uIs,q0b (show k<=1000000000 by omega),ih (k+1) (by omega),List.all_cons]
  by_cases h:xs[k].2.length<=40
  ·have: ¬((40:Int)<(xs[k].2.length:Int)):=by omega
   simp[-List.getElem_cons_drop,this,h]
  ·have:((40:Int)<(xs[k].2.length:Int)):=by omega
   simp[-List.getElem_cons_drop,this,h]
def few(a:Int)(l:List Int)(es:List E4)(xs:List (Bool×List Int)):Bool:=
 !(decide (30<a)&&decide (a<=300))&&decide (es.length<=60)&&decide (l.length<=40)&&decide (xs.length<=12)&&xs.all fun x=>decide (x.2.length<=40)
theorem K1L:y9 M a (uIs b1 l) (uEs b2 es) (uLs b3 xs)=some (.val (.c (.bool (few a l es xs)))):=by
 have h9:xs.length<=12->y9_1 M a (uIs b1 l) (uEs b2 es) (uLs b3 xs) 0=some (.val (.c (.bool (xs.all fun x=>decide (x.2.length<=40))))):=by
  intro h
  have:=Q1A (M:=M) (a:=a) (b3:=b3) (a1:=uIs b1 l) (a2:=uEs b2 es) (xs:=xs) (by omega) xs.length 0 (by omega)
  rw[List.drop_zero]at this
  exact this
 rw[K1G]
 simp only[len_uEs,len_uIs,len_uLs,oS]
 unfold few
 have e1:decide ((60:Int)<(es.length:Int))= !decide (es.length<=60):=by rw[<-decide_not,decide_eq_decide];omega
 have e2:decide ((40:Int)<(l.length:Int))= !decide (l.length<=40):=by rw[<-decide_not,decide_eq_decide];omega
 have e3:decide ((12:Int)<(xs.length:Int))= !decide (xs.length<=12):=by rw[<-decide_not,decide_eq_decide];omega
 rw[e1,e2,e3]
 cases h1:decide (30<a)<;>cases h2:decide (a<=300)<;>cases h3:decide (es.length<=60)<;>cases h4:decide (l.length<=40)<;>cases h5:decide (xs.length<=12)<;>first |rfl |exact h9 (of_decide_eq_true h5)
theorem Z1I:y17 M (uIs b4 w0) (uIs b5 w1)=some (.val (.c (.bool (decide (w0.length<=70)&&decide (w1.length<=70))))):=by
 rw[J1w]
 simp only[len_uIs,oS]
 have e1:decide ((w0.length:Int)<=70)=decide (w0.length<=70):=by rw[decide_eq_decide];omega
 have e2:decide ((w1.length:Int)<=70)=decide (w1.length<=70):=by rw[decide_eq_decide];omega
 rw[e1,e2]
 cases decide (w0.length<=70)<;>cases decide (w1.length<=70)<;>rfl
theorem Z0d(xs:List (Bool×List Int)):(cp xs).length=xs.length:=by simp[cp]
theorem q1p(a:Int): ∀xs:List (Bool×List Int),lErr a (cp xs)=lErr a xs
 | []=>rfl
 |x::xs=>by
  have:=q1p a xs
  simp only[cp]at this
  simp only[cp,List.map_cons,lErr,this]
theorem Z1J(xs:List (Bool×List Int))(r1:List Int)(k:Nat):acc (cp xs) r1 k=acc xs r1 k:=by
 unfold acc cp
 have:((xs.map fun x=>(true,x.2)).getD k (false,[])).2=(xs.getD k (false,[])).2:=by
  rw[lG,lG,List.getElem?_map]
  cases xs[k]? <;>rfl
 rw[this]
theorem w1n(xs:List (Bool×List Int))(r1:List Int): ∀d k,pAc (cp xs) r1 d k=pAc xs r1 d k
 | 0,_=>rfl
 |d+1,k=>by simp only[pAc,Z1J,w1n xs r1 d]
theorem q1q:aErr a l es (cp xs)=aErr a l es xs:=by
 unfold aErr
 rw[q1p,Z0d]
theorem Z1K:chk a l es (cp xs) w0 w1 r0 r1=chk a l es xs w0 w1 r0 r1:=by
 unfold chk
 rw[q1q,w1n,Z0d]
theorem f2(a:Int)(b1 b2 b3:Bool)(l:List Int)(es:List E4)(xs:List (Bool×List Int)): ∃f,U.exact (.st [uI a,uIs b1 l,uEs b2 es,uLs b3 xs]) ks2=some f/\f 0=uI a/\f 1=uIs b1 l/\f 2=uEs b2 es/\f 3=uLs b3 xs:=⟨_,rfl,rfl,rfl,rfl,rfl⟩
theorem f1(b1 b2:Bool)(l r:List Int): ∃f,U.exact (.st [uIs b1 l,uIs b2 r]) ks1=some f/\f 0=uIs b1 l/\f 1=uIs b2 r:=⟨_,rfl,rfl,rfl⟩
end
end
theorem k1Y{u:U}(h:TyN (.int .i64) u): ∃n,u=uI n:=by
 simp only[TyN]at h
 obtain⟨n,rfl,_⟩:=h
 exact⟨n,rfl⟩
theorem K0G{α:Type}{g:α->U}: ∀{es:List U},(∀e∈es,∃x,e=g x)-> ∃l:List α,es=l.map g
 | [],_=>⟨[],rfl⟩
 |e::es,h=>by
  obtain⟨x,rfl⟩:=h e (by simp)
  obtain⟨l,rfl⟩:=K0G (es:=es) fun e he=>h e (by simp[he])
  exact⟨x::l,rfl⟩
theorem Q0R{u:U}(h:TyN (.sl [.int .i64]) u): ∃b l,u=uIs b l:=by
 rw[TyN]at h
 obtain⟨b,es,rfl,_,_,h⟩:=h
 obtain⟨l,rfl⟩:=K0G (g:=uI) (es:=es) fun e he=>by
  have:=h e he
  rw[TyR]at this
  exact k1Y this
 exact⟨b,l,rfl⟩
theorem z1l{u:U}(h:TyN (.sl [.int .i64, .int .i64, .int .i64, .int .i64]) u): ∃b l,u=uEs b l:=by
 rw[TyN]at h
 obtain⟨b,es,rfl,_,_,h⟩:=h
 obtain⟨l,rfl⟩:=K0G (g:=uE) (es:=es) fun e he=>by
  have:=h e he
  simp only[TyR,TyNs,TyN]at this
  obtain⟨_,rfl,_,_,rfl,⟨n1,rfl,_⟩,_,_,rfl,⟨n2,rfl,_⟩,_,_,rfl,⟨n3,rfl,_⟩,_,_,rfl,⟨n4,rfl,_⟩,rfl⟩:=this
  exact⟨⟨n1,n2,n3,n4⟩,rfl⟩
 exact⟨b,l,rfl⟩
theorem z1m{u:U}(h:TyN (.sl [.sl [.int .i64]]) u): ∃b l,u=uLs b l:=by
 rw[TyN]at h
 obtain⟨b,es,rfl,_,_,h⟩:=h
 obtain⟨l,rfl⟩:=K0G (g:=fun x:Bool×List Int=>uIs x.1 x.2) (es:=es) fun e he=>by
  have:=h e he
  rw[TyR]at this
  obtain⟨b,l,rfl⟩:=Q0R this
  exact⟨(b,l),rfl⟩
 exact⟨b,l,rfl⟩
theorem w1O{u:U}(h:TyP (.struct [.int .i64, .sl [.int .i64], .sl [.int .i64, .int .i64, .int .i64, .int .i64], .sl [.sl [.int .i64]]]) u): ∃a b1 l b2 es b3 xs,u= .st [uI a,uIs b1 l,uEs b2 es,uLs b3 xs]:=by
 obtain⟨us,rfl,h⟩:=h
 simp only[TyNs]at h
 obtain⟨_,_,rfl,h1,_,_,rfl,h2,_,_,rfl,h3,_,_,rfl,h4,rfl⟩:=h
 obtain⟨a,rfl⟩:=k1Y h1
 obtain⟨b1,l,rfl⟩:=Q0R h2
 obtain⟨b2,es,rfl⟩:=z1l h3
 obtain⟨b3,xs,rfl⟩:=z1m h4
 exact⟨a,b1,l,b2,es,b3,xs,rfl⟩
theorem w1P{u:U}(h:TyP (.struct [.sl [.int .i64], .sl [.int .i64]]) u): ∃b1 l b2 r,u= .st [uIs b1 l,uIs b2 r]:=by
 obtain⟨us,rfl,h⟩:=h
 simp only[TyNs]at h
 obtain⟨_,_,rfl,h1,_,_,rfl,h2,rfl⟩:=h
 obtain⟨b1,l,rfl⟩:=Q0R h1
 obtain⟨b2,r,rfl⟩:=Q0R h2
 exact⟨b1,l,b2,r,rfl⟩
def Inf(nx:Nat->Nat->Prop)(m:Nat)(S:Nat->Nat->Prop)(v:Nat):Prop:=
 ∃f:Nat->Nat,f 0=v/\(∀i,nx (f i) (f (i+1)))/\ ∀k,k<m-> ∀N,∃i,N<=i/\S k (f i)
def Rn(nx:Nat->Nat->Prop)(P T:Nat->Prop):Nat->Nat->Prop
 | 0,v=> ∃w,nx v w/\P w/\T w
 |n+1,v=> ∃w,nx v w/\P w/\Rn nx P T n w
section
variable{nx:Nat->Nat->Prop}{m:Nat}{S:Nat->Nat->Prop}{P T:Nat->Prop}
theorem Inf.shift{f:Nat->Nat}(h1: ∀i,nx (f i) (f (i+1)))(h2: ∀k,k<m-> ∀N,∃i,N<=i/\S k (f i))(j:Nat):Inf nx m S (f j):=
 ⟨fun i=>f (j+i),rfl,fun i=>h1 (j+i),fun k hk N=>by
  obtain⟨i,hi,hs⟩:=h2 k hk (j+N)
  exact⟨i - j,by omega,by show S k (f (j+(i - j)));rw[show j+(i - j)=i by omega];exact hs⟩⟩
theorem Inf.reach(hP: ∀u,Inf nx m S u->P u){k:Nat}(hk:k<m){v:Nat}(h:Inf nx m S v): ∃n,Rn nx P (S k) n v:=by
 obtain⟨f,rfl,h1,h2⟩:=h
 obtain⟨i,hi,hs⟩:=h2 k hk 1
 have key: ∀d j,j+d+1=i->Rn nx P (S k) d (f j):=by
  intro d
  induction d with
  |zero=>intro j hj;exact⟨f (j+1),h1 j,hP _ (Inf.shift h1 h2 _),by rw[show j+1=i by omega];exact hs⟩
  |succ d ih=>intro j hj;exact⟨f (j+1),h1 j,hP _ (Inf.shift h1 h2 _),ih (j+1) (by omega)⟩
 exact⟨i - 1,key (i - 1) 0 (by omega)⟩
theorem Inf.none{v:Nat}(hP: ∀u,Inf nx 0 S u->P u)(h:Inf nx 0 S v): ∃n,Rn nx P (fun _=>True) n v:=by
 obtain⟨f,rfl,h1,h2⟩:=h
 exact⟨0,f 1,h1 0,hP _ (Inf.shift h1 h2 1),trivial⟩
theorem j0r{p:Nat->Prop}(h: ∃n,p n): ∃n,p n/\ ∀j,p j->n<=j:=by
 obtain⟨n,hn⟩:=h
 induction n using Nat.strongRecOn with
 |_ n ih=>
  by_cases hj: ∃j,j<n/\p j
  ·obtain⟨j,h1,h2⟩:=hj;exact ih j h1 h2
  ·exact⟨n,hn,fun j h2=>Nat.le_of_not_lt fun h1=>hj ⟨j,h1,h2⟩⟩
open Classical in
noncomputable def Ds(nx:Nat->Nat->Prop)(P:Nat->Prop)(S:Nat->Nat->Prop)(k u:Nat):Nat:=if h: ∃n,Rn nx P (S k) n u then(j0r h).choose else 0
open Classical in
theorem z0s{k u:Nat}(h: ∃n,Rn nx P (S k) n u): ∃w,nx u w/\P w/\(S k w\/Ds nx P S k w<Ds nx P S k u):=by
 have e:Ds nx P S k u=(j0r h).choose:=by unfold Ds;rw[dif_pos h]
 have hm:=(j0r h).choose_spec.1
 rw[<-e]at hm
 generalize Ds nx P S k u=n at hm⊢
 cases n with
 |zero=>obtain⟨w,h1,h2,h3⟩:=hm;exact⟨w,h1,h2, .inl h3⟩
 |succ n=>
  obtain⟨w,h1,h2,h3⟩:=hm
  refine⟨w,h1,h2, .inr ?_⟩
  have hw: ∃n,Rn nx P (S k) n w:=⟨n,h3⟩
  have:Ds nx P S k w=(j0r hw).choose:=by unfold Ds;rw[dif_pos hw]
  rw[this]
  exact Nat.lt_succ_of_le ((j0r hw).choose_spec.2 _ h3)
open Classical in
noncomputable def goOn(nx:Nat->Nat->Prop)(P:Nat->Prop)(S:Nat->Nat->Prop)(m:Nat)(q:Nat×Nat):Nat×Nat:=
 if h: ∃n,Rn nx P (S q.2) n q.1 then((z0s h).choose,if S q.2 (z0s h).choose then(q.2+1) % m else q.2)else q
noncomputable def goes(nx:Nat->Nat->Prop)(P:Nat->Prop)(S:Nat->Nat->Prop)(m v:Nat):Nat->Nat×Nat
 | 0=>(v,0)
 |i+1=>goOn nx P S m (goes nx P S m v i)
theorem k0M(hm:0<m)(hk: ∀u,P u-> ∀k,k<m-> ∃n,Rn nx P (S k) n u){v:Nat}(hv:P v):Inf nx m S v:=by
 have inv: ∀i,P (goes nx P S m v i).1/\(goes nx P S m v i).2<m:=by
  intro i
  induction i with
  |zero=>exact⟨hv,hm⟩
  |succ i ih=>
   have hex:=hk _ ih.1 _ ih.2
   simp only[goes,goOn,dif_pos hex]
   refine⟨(z0s hex).choose_spec.2.1, ?_⟩
   split
   ·exact Nat.mod_lt _ hm
   ·exact ih.2
 have stp: ∀i,nx (goes nx P S m v i).1 (goes nx P S m v (i+1)).1:=by
  intro i
  have hex:=hk _ (inv i).1 _ (inv i).2
  simp only[goes,goOn,dif_pos hex]
  exact(z0s hex).choose_spec.1
 have meet: ∀(d i:Nat),Ds nx P S (goes nx P S m v i).2 (goes nx P S m v i).1<=d-> ∃j,i<j/\S (goes nx P S m v i).2 (goes nx P S m v j).1/\(goes nx P S m v j).2=((goes nx P S m v i).2+1) % m:=by
  intro d
  induction d with
  |zero=>
   intro i hd
   have hex:=hk _ (inv i).1 _ (inv i).2
   have hs:=(z0s hex).choose_spec.2.2
   refine⟨i+1,by omega, ?_⟩
   rcases hs with hs |hs
   ·simp only[goes,goOn,dif_pos hex,if_pos hs]
    exact⟨hs,trivial⟩
   ·omega
  |succ d ih=>
   intro i hd
   have hex:=hk _ (inv i).1 _ (inv i).2
   have hs:=(z0s hex).choose_spec.2.2
   by_cases hS:S (goes nx P S m v i).2 (z0s hex).choose
   ·refine⟨i+1,by omega, ?_⟩
    simp only[goes,goOn,dif_pos hex,if_pos hS]
    exact⟨hS,trivial⟩
   ·have hlt:=hs.resolve_left hS
    have e1:(goes nx P S m v (i+1)).2=(goes nx P S m v i).2:=by simp only[goes,goOn,dif_pos hex,if_neg hS]
    have e2:(goes nx P S m v (i+1)).1=(z0s hex).choose:=by simp only[goes,goOn,dif_pos hex]
    obtain⟨j,h1,h2,h3⟩:=ih (i+1) (by rw[e1,e2];omega)
    rw[e1]at h2 h3
    exact⟨j,by omega,h2,h3⟩
 have turn: ∀(t i:Nat),∃j,i<=j/\(goes nx P S m v j).2=((goes nx P S m v i).2+t) % m:=by
  intro t
  induction t with
  |zero=>intro i;exact⟨i,nR _,(Nat.mod_eq_of_lt (inv i).2).symm⟩
  |succ t ih=>
   intro i
   obtain⟨j,h1,h2⟩:=ih i
   obtain⟨j',g1,_,g3⟩:=meet _ j (nR _)
   refine⟨j',by omega, ?_⟩
   rw[g3,h2,Nat.mod_add_mod,Nat.add_assoc]
 refine⟨fun i=>(goes nx P S m v i).1,rfl,stp,fun k hkm N=> ?_⟩
 obtain⟨j,h1,h2⟩:=turn (k+m - (goes nx P S m v N).2) N
 have hlt:=(inv N).2
 rw[show(goes nx P S m v N).2+(k+m - (goes nx P S m v N).2)=k+m by omega,Nat.add_mod_right,Nat.mod_eq_of_lt hkm]at h2
 obtain⟨j',g1,g2,_⟩:=meet _ j (nR _)
 rw[h2]at g2
 exact⟨j',by omega,g2⟩
theorem w0B(hk: ∀u,P u-> ∃n,Rn nx P (fun _=>True) n u){v:Nat}(hv:P v):Inf nx 0 S v:=by
 obtain⟨f,h1,h2,_⟩:=k0M (m:=1) (S:=fun _ _=>True) (by omega) (fun u hu k _=>hk u hu) hv
 exact⟨f,h1,h2,fun k hk=>absurd hk (Nat.not_lt_zero _)⟩
end
structure Au where
 init:Nat->Prop
 step:Nat->Nat->Nat->Prop
 m:Nat
 acc:Nat->Nat->Prop
def Acc(A:Au)(w:Nat->Nat):Prop:=
 ∃ρ:Nat->Nat,A.init (ρ 0)/\(∀i,A.step (ρ i) (w i) (ρ (i+1)))/\ ∀k,k<A.m-> ∀N,∃i,N<=i/\A.acc k (ρ i)
def adv(acc:Nat->Nat->Bool)(m t:Nat):Nat->Nat->Nat
 | 0,k=>k
 |d+1,k=>if k<m/\acc k t=true then adv acc m t d (k+1)else k
def lev(acc:Nat->Nat->Bool)(m t lv:Nat):Nat:=adv acc m t (m+1) (if lv=m then 0 else lv)
section
variable{acc:Nat->Nat->Bool}{m t:Nat}
end
abbrev uB(b:Bool):U:= .c (.bool b)
def uBs(l:List Bool):List U:=l.map uB
@[simp] theorem uBs_length (l:List Bool):(uBs l).length=l.length:=by simp[uBs]
theorem j0e{l:List Bool}{k:Nat}{b:Bool}(h:l[k]? =some b):(uBs l)[k]? =some (uB b):=by simp[uBs,h]
theorem j0z(l:List Bool):scals (uBs l)=true:=by
 induction l with
 |nil=>rfl
 |cons b l ih=>simp only[uBs,List.map_cons,scals]at ih⊢;rw[ih];rfl
theorem J0j{b:Bool}{l:List Bool}{k:Nat}{x:Bool}(h:l[k]? =some x):U.idx 1 (.sl b (uBs l)) (k:Int)=some (uB x):=by
 simp[U.idx,U.asL,elU,j0e h,U.size,U.cells]
theorem j0j{l:List Bool}{k:Nat}(h:k<l.length):Sx.has (⟨true,1,uBs l⟩:Sx) 1 (k:Int)=true:=by
 simp[Sx.has];omega
theorem j0p{l:List Bool}{k:Nat}{x:Bool}(h:k<l.length):Sx.put (⟨true,1,uBs l⟩:Sx) 1 k 0 (uB x)=some ⟨true,1,uBs (l.set k x)⟩:=by
 have h1:(uB x).size=1:=rfl
 have h2:k<(uBs l).length:=by rw[uBs_length];exact h
 unfold Sx.put
 rw[if_pos ⟨rfl,rfl⟩,if_pos ⟨h1,h2⟩]
 simp[uBs,List.map_set]
def cf:List Bool->Nat
 | []=>0
 |b::l=>(if b=true then 0 else 1)+cf l
theorem w1o: ∀{l:List Bool} {k:Nat},l[k]? =some false->cf (l.set k true)+1=cf l
 | [],k,h=>by simp at h
 |b::l,0,h=>by
  simp at h;subst h
  simp only[List.set_cons_zero,cf];simp;omega
 |b::l,k+1,h=>by
  have:=w1o (l:=l) (k:=k) (by simpa using h)
  simp only[List.set_cons_succ,cf];omega
theorem w0f: ∀{l:List Bool} {k:Nat},l[k]? =some true->cf (l.set k false)=cf l+1
 | [],k,h=>by simp at h
 |b::l,0,h=>by
  simp at h;subst h
  simp only[List.set_cons_zero,cf];simp;omega
 |b::l,k+1,h=>by
  have:=w0f (l:=l) (k:=k) (by simpa using h)
  simp only[List.set_cons_succ,cf];omega
theorem Q1B: ∀l:List Bool,cf l<=l.length
 | []=>nR _
 |b::l=>by have:=Q1B l;simp only[cf,List.length_cons];split<;>omega
structure IsOp (s:Sx) (l:List Int):Prop where
 es:s.es=l.map uI
 z:s.b=false\/s.sz=1
 b:l≠[]->s.b=true
theorem IsOp.nil:IsOp ⟨false,0,[]⟩ []:=⟨rfl, .inl rfl,fun h=>absurd rfl h⟩
theorem IsOp.app{s:Sx}{l:List Int}(h:IsOp s l)(x:Int)(hn:l.length<=1000000000): ∃s',Sx.app s 1 [uI x]=some s'/\IsOp s' (l++[x]):=by
 have hr:roomy (s.es.length+[uI x].length):=by rw[h.es];show _<=_;simp;omega
 refine⟨⟨true,1,s.es++[uI x]⟩, ?_,⟨by simp[h.es], .inr rfl,fun _=>rfl⟩⟩
 unfold Sx.app
 rw[if_pos ⟨h.z,by simp[U.size,U.cells],hr⟩,if_neg (by simp)]
theorem IsOp.len{s:Sx}{l:List Int}(h:IsOp s l):s.es.length=l.length:=by rw[h.es,List.length_map]
theorem IsOp.last{s:Sx}{l:List Int}{x:Int}(h:IsOp s (l++[x]))(hn:l.length<=1000000000):
  IntKind.wrap .i64 (((s.es.length:Nat):Int) - 1)=((l.length:Nat):Int)/\Sx.has s 1 ((l.length:Nat):Int)=true/\s.es[l.length]? =some (uI x)/\(s.sz=1/\s.b=true)/\
  ∃l4,subU 1 s.es 0 (some ((l.length:Nat):Int))=some l4/\IsOp (Sx.win s ((0:Int).toNat) l4.length) l:=by
 have hb:=h.b (by simp)
 have hz:s.sz=1:=h.z.resolve_left (by rw[hb];simp)
 have hl:s.es.length=l.length+1:=by rw[h.len];simp
 refine⟨by rw[hl,q0e (by omega) (by omega)];omega, ?_, ?_,⟨hz,hb⟩, ?_⟩
 ·simp only[Sx.has,hl,hz];simp;omega
 ·rw[h.es];simp
 ·have hall:s.es.all (fun v=>v.size==1)=true:=by rw[h.es];simp[U.size,U.cells]
  refine⟨(s.es.drop (0:Int).toNat).take (((l.length:Nat):Int) - 0).toNat, ?_, ?_⟩
  ·unfold subU
   rw[if_pos ⟨by omega,by simp,by simp only[Option.getD_some];omega,hall⟩]
   rfl
  ·have e:((s.es.drop (0:Int).toNat).take (((l.length:Nat):Int) - 0).toNat).length=l.length:=by simp;omega
   rw[e]
   refine⟨?_,h.z,fun _=>hb⟩
   show(s.es.drop (0:Int).toNat).take l.length=_
   rw[h.es];simp
def nxR(rows:List (Bool×List Int))(u v:Nat):Prop:=(u:Int)∈(rows.getD v (false,[])).2
def inB(l:List Bool)(i:Nat):Prop:=l[i]? =some true
section
variable{M:YM}{rows:List (Bool×List Int)}{P T:List Bool}{n:Nat}
def Goal(rows:List (Bool×List Int))(P T:List Bool)(i:Nat):Prop:=inB P i/\ ∃d,Rn (nxR rows) (inB P) (inB T) d i
def closed(rows:List (Bool×List Int))(P out:List Bool)(x:Nat):Prop:= ∀y:Nat,(y:Int)∈(rows.getD x (false,[])).2->inB P y->inB out y
structure RI (rows:List (Bool×List Int)) (P T:List Bool) (n:Nat) (out:List Bool) (op:List Int) (cur:Option Nat):Prop where
 len:out.length=n
 sound: ∀i,inB out i->Goal rows P T i
 src: ∀x∈op,∃j:Nat,x=j/\j<n/\inB P j/\(inB T j\/inB out j)
 all: ∀x,inB P x->(inB T x\/inB out x)->(x:Int)∈op\/closed rows P out x\/cur=some x
theorem z0h{l:List Bool}{k i:Nat}(h:inB l i):inB (l.set k true) i:=by
 unfold inB at*
 rw[List.getElem?_set]
 split
 ·rename_i e
  subst e
  rw[if_pos (gE.1 h).1]
 ·exact h
theorem q0I{l:List Bool}{k i:Nat}(hk:k<l.length):inB (l.set k true) i↔i=k\/inB l i:=by
 unfold inB
 rw[List.getElem?_set]
 by_cases e:k=i
 ·subst e;rw[if_pos rfl,if_pos hk];simp
 ·rw[if_neg e]
  exact⟨.inr,fun h=>h.resolve_left fun h=>e h.symm⟩
theorem RI.goal{out:List Bool}(h:RI rows P T n out [] none){i:Nat}:inB out i↔Goal rows P T i:=by
 refine⟨h.sound i, ?_⟩
 rintro⟨hp,d,hd⟩
 have cl: ∀w,inB P w->(inB T w\/inB out w)->closed rows P out w:=fun w h1 h2=>by
  rcases h.all w h1 h2 with h3 |h3 |h3
  ·simp at h3
  ·exact h3
  ·cases h3
 induction d generalizing i with
 |zero=>obtain⟨w,h1,h2,h3⟩:=hd;exact cl w h2 (.inl h3) i h1 hp
 |succ d ih=>obtain⟨w,h1,h2,h3⟩:=hd;exact cl w h2 (.inr (ih h2 h3)) i h1 hp
variable(hn:n<=1000000)(hr:rows.length=n)(hP:P.length=n)(hT:T.length=n)(hrows: ∀r∈rows,(∀y∈r.2,0<=y/\y<(n:Int))/\r.2.length<=1000000000)
include hn hr hP hT hrows
theorem k1c{bb:Bool}{x:Nat}(hx:x<n)(hPx:inB P x){d:Nat}(hdn:d<=2000000)
  (ih: ∀(out:List Bool) (op:List Int) (s:Sx),IsOp s op->cf out+op.length<=d->RI rows P T n out op none-> ∃out',y83_3 M (uLs bb rows) (.sl true (uBs P)) ⟨true,1,uBs out⟩ s=some (.sl ⟨true,1,uBs out'⟩)/\out'.length=n/\ ∀i,inB out' i↔Goal rows P T i):
  ∀(e k:Nat) (out:List Bool) (op:List Int) (s:Sx),k+e=(rows.getD x (false,[])).2.length->IsOp s op->cf out+op.length<=d->RI rows P T n out op (some x)->(inB T x\/inB out x)->
   (∀(j y:Nat),j<k->(rows.getD x (false,[])).2[j]? =some (y:Int)->inB P y->inB out y)->
   ∃out',y83_4 M (uLs bb rows) (.sl true (uBs P)) (x:Int) (k:Int) ⟨true,1,uBs out⟩ s=some (.sl ⟨true,1,uBs out'⟩)/\out'.length=n/\ ∀i,inB out' i↔Goal rows P T i:=by
 have hxr:rows[x]? =some (rows.getD x (false,[])):=by
  rw[lG,List.getElem?_eq_getElem (by omega)];rfl
 generalize hrow:rows.getD x (false,[])=row at*
 have hrm:row∈rows:=List.mem_of_getElem? hxr
 intro e
 induction e with
 |zero=>
  intro k out op s hk ho hd hI hsrc hdone
  rw[W0d]
  simp only[j0P hxr,oS,cell_uIs,len_uIs,show¬((k:Int)<((row.2.length:Nat):Int)) by omega,dF,bF,iF]
  refine ih out op s ho hd ⟨hI.len,hI.sound,hI.src,fun z h1 h2=> ?_⟩
  rcases hI.all z h1 h2 with h3 |h3 |h3
  ·exact .inl h3
  ·exact .inr (.inl h3)
  ·cases h3
   refine .inr (.inl fun y hy hPy=> ?_)
   rw[hrow]at hy
   obtain⟨j,hj⟩:=List.mem_iff_getElem?.1 hy
   exact hdone j y (by have:=(gE.1 hj).1;omega) hj hPy
 |succ e ihe=>
  intro k out op s hk ho hd hI hsrc hdone
  have hlt:k<row.2.length:=by omega
  have hlen:=(hrows row hrm).2
  obtain⟨y0,y1⟩:=(hrows row hrm).1 row.2[k] (lM hlt)
  obtain⟨y,hy⟩:=iZ y0
  have hget:row.2[k]? =some (y:Int):=by rw[q0a hlt,hy]
  rw[hy]at y1
  have hyn:y<n:=by omega
  have hopn:op.length<=1000000000:=by omega
  obtain⟨p,hPy⟩: ∃p,P[y]? =some p:=⟨_,q0a (by omega)⟩
  obtain⟨o,houty⟩: ∃o,out[y]? =some o:=⟨_,q0a (by rw[hI.len];exact hyn)⟩
  rw[W0d]
  simp only[j0P hxr,oS,cell_uIs,len_uIs,show((k:Int)<((row.2.length:Nat):Int)) by omega,dY,iT,q0L hget,cell_c,asI_c,J0j hPy,asB_c,j0j (show y<out.length by rw[hI.len];exact hyn),iN,j0e houty,z1u,q0b (show k<=1000000000 by omega)]
  have skip:(inB P y->inB out y)-> ∃out',y83_4 M (uLs bb rows) (.sl true (uBs P)) (x:Int) ((k+1:Nat):Int) ⟨true,1,uBs out⟩ s=some (.sl ⟨true,1,uBs out'⟩)/\out'.length=n/\ ∀i,inB out' i↔Goal rows P T i:=fun hy2=>
   ihe (k+1) out op s (by omega) ho hd hI hsrc fun j z hj hz hPz=>by
    by_cases hjk:j<k
    ·exact hdone j z hjk hz hPz
    ·have:j=k:=by omega
     subst this
     rw[hget]at hz
     have:y=z:=by have:=Option.some.inj hz;omega
     subst this
     exact hy2 hPz
  cases p with
  |false=>
   simp only[bF,iF,oS]
   exact skip fun h=>by rw[inB,hPy]at h;cases h
  |true=>
   cases o with
   |true=>
    simp only[iT,Bool.not_true,oS,bF,iF]
    exact skip fun _=>houty
   |false=>
    simp only[iT,Bool.not_false,oS,j0p (show y<out.length by rw[hI.len];exact hyn)]
    obtain⟨s',h1,h2⟩:=ho.app (y:Int) hopn
    simp only[show(U.c (.int .i64 (y:Int)))=uI (y:Int)from rfl,h1,oS]
    have hcf:=w1o houty
    have hyl:y<out.length:=by rw[hI.len];exact hyn
    have hg:Goal rows P T y:=by
     have hnx:nxR rows y x:=by show(y:Int)∈(rows.getD x (false,[])).2;rw[hrow];exact List.mem_of_getElem? hget
     rcases hsrc with h |h
     ·exact⟨hPy,0,x,hnx,hPx,h⟩
     ·obtain⟨_,d',hd'⟩:=hI.sound x h
      exact⟨hPy,d'+1,x,hnx,hPx,hd'⟩
    refine ihe (k+1) (out.set y true) (op++[(y:Int)]) s' (by omega) h2 (by simp only[List.length_append,List.length_cons,List.length_nil];omega) ⟨by rw[List.length_set];exact hI.len,fun i hi=> ?_,fun z hz=> ?_,fun z h1 h2=> ?_⟩ (hsrc.imp id z0h) fun j z hj hz hPz=> ?_
    ·rcases(q0I hyl).1 hi with e |h
     ·subst e;exact hg
     ·exact hI.sound i h
    ·rcases mA.1 hz with hz |hz
     ·obtain⟨j,g1,g2,g3,g4⟩:=hI.src z hz
      exact⟨j,g1,g2,g3,g4.imp id z0h⟩
     ·exact⟨y,by simpa using hz,hyn,hPy, .inr ((q0I hyl).2 (.inl rfl))⟩
    ·by_cases hzy:z=y
     ·subst hzy;exact .inl (by simp)
     ·have h3:inB T z\/inB out z:=h2.imp id fun h=>((q0I hyl).1 h).resolve_left hzy
      rcases hI.all z h1 h3 with g |g |g
      ·exact .inl (mA.2 (.inl g))
      ·exact .inr (.inl fun w hw hPw=>z0h (g w hw hPw))
      ·exact .inr (.inr g)
    ·by_cases hjk:j<k
     ·exact z0h (hdone j z hjk hz hPz)
     ·have:j=k:=by omega
      subst this
      rw[hget]at hz
      have:y=z:=by have:=Option.some.inj hz;omega
      subst this
      exact(q0I hyl).2 (.inl rfl)
theorem k1d{bb:Bool}: ∀(d:Nat),d<=2000000-> ∀(out:List Bool) (op:List Int) (s:Sx),IsOp s op->cf out+op.length<=d->RI rows P T n out op none->
  ∃out',y83_3 M (uLs bb rows) (.sl true (uBs P)) ⟨true,1,uBs out⟩ s=some (.sl ⟨true,1,uBs out'⟩)/\out'.length=n/\ ∀i,inB out' i↔Goal rows P T i:=by
 have stop: ∀(out:List Bool) (s:Sx),IsOp s []->RI rows P T n out [] none-> ∃out',y83_3 M (uLs bb rows) (.sl true (uBs P)) ⟨true,1,uBs out⟩ s=some (.sl ⟨true,1,uBs out'⟩)/\out'.length=n/\ ∀i,inB out' i↔Goal rows P T i:=fun out s ho hI=>by
  refine⟨out, ?_,hI.len,fun i=>hI.goal⟩
  rw[W0c]
  simp only[ho.len,List.length_nil,show¬((0:Int)<((0:Nat):Int)) by omega,dF,bF,iF,j0z,iT]
 intro d
 induction d with
 |zero=>
  intro _ out op s ho hd hI
  have:op=[]:=List.length_eq_zero_iff.1 (by omega)
  subst this
  exact stop out s ho hI
 |succ d ih=>
  intro hdn out op s ho hd hI
  rcases List.eq_nil_or_concat op with rfl |⟨l,x,hop⟩
  ·exact stop out s ho hI
  ·rw[List.concat_eq_append]at hop
   subst hop
   simp only[List.length_append,List.length_cons,List.length_nil]at hd
   obtain⟨j,rfl,g2,g3,g4⟩:=hI.src x (by simp)
   obtain⟨e1,e2,e3,e4,l4,e5,e6⟩:=ho.last (by omega)
   obtain⟨out',k1,k2⟩:=k1c (M:=M) hn hr hP hT hrows (bb:=bb) g2 g3 (d:=d) (by omega) (ih (by omega)) (rows.getD j (false,[])).2.length 0 out l _ (by omega) e6 (by omega)
    ⟨hI.len,hI.sound,fun z hz=>hI.src z (by simp[hz]),fun z h1 h2=>by
     rcases hI.all z h1 h2 with h |h |h
     ·rcases mA.1 h with h |h
      ·exact .inl h
      ·have:j=z:=by have:=List.mem_singleton.1 h;omega
       exact .inr (.inr (by rw[this]))
     ·exact .inr (.inl h)
     ·cases h⟩ g4 (fun i y hi=>by omega)
   refine⟨out', ?_,k2⟩
   rw[W0c]
   have hpos:(0:Int)<((s.es.length:Nat):Int):=by rw[ho.len];simp
   simp only[hpos,e1,iN,dY,iT,e2,e3,oS,cell_c,asI_c,e4,and_self,e5]
   exact k1
theorem k1e{bb:Bool}{b2:Bool}(out:List Bool)(hout:out=List.replicate n false): ∀(d k:Nat) (op:List Int) (s:Sx),k+d=n->IsOp s op->op.length<=k->(∀x∈op,∃j:Nat,x=j/\j<n/\inB P j/\inB T j)->(∀j,j<k->inB P j->inB T j->(j:Int)∈op)->
  ∃out',y83_1 M (uLs bb rows) (.sl true (uBs P)) (.sl b2 (uBs T)) (k:Int) ⟨true,1,uBs out⟩ s=some (.sl ⟨true,1,uBs out'⟩)/\out'.length=n/\ ∀i,inB out' i↔Goal rows P T i:=by
 have hlen: ∀(b:Bool) (l:List Bool),U.len (.sl b (uBs l))=some l.length:=fun b l=>by simp[U.len,U.asL]
 have none_in: ∀i,¬inB out i:=fun i h=>by
  rw[hout,inB,List.getElem?_replicate]at h
  split at h<;>cases h
 intro d
 induction d with
 |zero=>
  intro k op s hk ho hle h1 h2
  rw[W0b]
  simp only[hlen,oS,hP,show¬((k:Int)<((n:Nat):Int)) by omega,dF,bF,iF]
  have hcf:=Q1B out
  rw[hout,List.length_replicate,<-hout]at hcf
  refine k1d hn hr hP hT hrows (cf out+op.length) (by omega) out op s ho (nR _) ⟨by simp[hout],fun i h=>absurd h (none_in i),fun x hx=> ?_,fun x hx hx2=> ?_⟩
  ·obtain⟨j,g1,g2,g3,g4⟩:=h1 x hx
   exact⟨j,g1,g2,g3, .inl g4⟩
  ·have hxn:x<n:=by have:=(gE.1 hx).1;omega
   exact .inl (h2 x (by omega) hx (hx2.resolve_right (none_in x)))
 |succ d ih=>
  intro k op s hk ho hle h1 h2
  obtain⟨p,hPk⟩: ∃p,P[k]? =some p:=⟨_,q0a (by omega)⟩
  obtain⟨t,hTk⟩: ∃t,T[k]? =some t:=⟨_,q0a (by omega)⟩
  rw[W0b]
  simp only[hlen,oS,hP,show((k:Int)<((n:Nat):Int)) by omega,dY,iT,J0j hPk,J0j hTk,cell_c,asB_c,z1t,q0b (show k<=1000000000 by omega)]
  have skip: ¬(p=true/\t=true)-> ∃out',y83_1 M (uLs bb rows) (.sl true (uBs P)) (.sl b2 (uBs T)) ((k+1:Nat):Int) ⟨true,1,uBs out⟩ s=some (.sl ⟨true,1,uBs out'⟩)/\out'.length=n/\ ∀i,inB out' i↔Goal rows P T i:=fun hpt=>
   ih (k+1) op s (by omega) ho (by omega) h1 fun j hj g1 g2=>by
    by_cases hjk:j<k
    ·exact h2 j hjk g1 g2
    ·have:j=k:=by omega
     subst this
     rw[inB,hPk]at g1;rw[inB,hTk]at g2
     exact absurd ⟨Option.some.inj g1,Option.some.inj g2⟩ hpt
  cases p with
  |false=>
   simp only[bF,iF,oS]
   exact skip fun h=>by cases h.1
  |true=>
   cases t with
   |false=>
    simp only[iT,oS,bF,iF]
    exact skip fun h=>by cases h.2
   |true=>
    obtain⟨s',g1,g2⟩:=ho.app (k:Int) (by omega)
    simp only[iT,oS,show(U.c (.int .i64 (k:Int)))=uI (k:Int)from rfl,g1]
    refine ih (k+1) (op++[(k:Int)]) s' (by omega) g2 (by simp;omega) (fun x hx=> ?_) fun j hj g1 g2=> ?_
    ·rcases mA.1 hx with hx |hx
     ·exact h1 x hx
     ·exact⟨k,by simpa using hx,by omega,hPk,hTk⟩
    ·by_cases hjk:j<k
     ·exact mA.2 (.inl (h2 j hjk g1 g2))
     ·have:j=k:=by omega
      subst this;simp
theorem w1p{bb b2:Bool}: ∃out',y83 M (uLs bb rows) (.sl true (uBs P)) (.sl b2 (uBs T))=some (.sl ⟨true,1,uBs out'⟩)/\out'.length=n/\ ∀i,inB out' i↔Goal rows P T i:=by
 have hlen: ∀(b:Bool) (l:List Bool),U.len (.sl b (uBs l))=some l.length:=fun b l=>by simp[U.len,U.asL]
 obtain⟨out',k1,k2⟩:=k1e (M:=M) hn hr hP hT hrows (bb:=bb) (b2:=b2) (List.replicate n false) rfl n 0 [] ⟨false,0,[]⟩ (by omega) IsOp.nil (nR _) (fun x hx=>by cases hx) (fun j hj=>by omega)
 refine⟨out', ?_,k2⟩
 rw[J1Y]
 have hrep:List.replicate n (U.c (.bool false))=uBs (List.replicate n false):=by simp[uBs]
 simp only[hlen,oS,hP,iN,hrep]
 rw[if_pos ⟨by omega,by omega,trivial⟩]
 exact k1
end
theorem Rn.mono{nx:Nat->Nat->Prop}{P P' T T':Nat->Prop}(hP: ∀i,P i->P' i)(hT: ∀i,P i->T i->T' i): ∀{d v},Rn nx P T d v->Rn nx P' T' d v
 | 0,v,⟨w,h1,h2,h3⟩=>⟨w,h1,hP _ h2,hT _ h2 h3⟩
 |d+1,v,⟨w,h1,h2,h3⟩=>⟨w,h1,hP _ h2,Rn.mono hP hT h3⟩
section
variable{M:YM}{n:Nat}{rows:List (Bool×List Int)}{Ts:List (List Bool)}{f3:Bool->Sx->YRs}{f4:Bool->Int->Sx->YRs}{f5:Bool->Int->Int->Sx->Sx->YRs}
def Post(rows:List (Bool×List Int))(Ts:List (List Bool))(X:Nat->Prop):Prop:= ∀(u:Nat),X u-> ∀(k:Nat) (T:List Bool),Ts[k]? =some T-> ∃d,Rn (nxR rows) X (inB T) d u
variable(hn:n<=1000000)(hTn: ∀T∈Ts,T.length=n)(hm:Ts.length<=1000000)
 (e3: ∀c v,f3 c v=if c=true then f4 false 0 v else if scals v.es=true then some (.sl v)else none)
 (e4: ∀c (k:Nat) (P:List Bool) T,P.length=n->Ts[k]? =some T-> ∃now:List Bool,now.length=n/\(∀i,inB now i↔Goal rows P T i)/\f4 c (k:Int) ⟨true,1,uBs P⟩=f5 c (k:Int) 0 ⟨true,1,uBs P⟩ ⟨true,1,uBs now⟩)
 (e4': ∀c P,f4 c (Ts.length:Int) ⟨true,1,uBs P⟩=f3 c ⟨true,1,uBs P⟩)
 (e5: ∀c (k i:Nat) (P now:List Bool) p o,P.length=n->now.length=n->P[i]? =some p->now[i]? =some o->i<n->f5 c (k:Int) (i:Int) ⟨true,1,uBs P⟩ ⟨true,1,uBs now⟩=
  if p=true/\o=false then f5 true (k:Int) ((i+1:Nat):Int) ⟨true,1,uBs (P.set i false)⟩ ⟨true,1,uBs now⟩else f5 c (k:Int) ((i+1:Nat):Int) ⟨true,1,uBs P⟩ ⟨true,1,uBs now⟩)
 (e5': ∀c (k:Nat) (P now:List Bool),P.length=n->k<Ts.length->f5 c (k:Int) (n:Int) ⟨true,1,uBs P⟩ ⟨true,1,uBs now⟩=f4 c ((k+1:Nat):Int) ⟨true,1,uBs P⟩)
include e5 e5' in
theorem K1I{k:Nat}(hk:k<Ts.length){P1 now:List Bool}{c0:Bool}(h1:P1.length=n)(hnow:now.length=n): ∀(e i:Nat) (P:List Bool) (c:Bool),i+e=n->P.length=n->(∀j,inB P j↔inB P1 j/\(j<i->inB now j))->
  (c=false->P=P1/\c0=false)->(c=true->c0=true\/cf P1<cf P)->cf P1<=cf P->
  ∃c' P',f5 c (k:Int) (i:Int) ⟨true,1,uBs P⟩ ⟨true,1,uBs now⟩=f4 c' ((k+1:Nat):Int) ⟨true,1,uBs P'⟩/\P'.length=n/\(∀j,inB P' j↔inB P1 j/\inB now j)/\(c'=false->P'=P1/\c0=false)/\(c'=true->c0=true\/cf P1<cf P')/\cf P1<=cf P':=by
 intro e
 induction e with
 |zero=>
  intro i P c hi hl hP hc hc2 hle
  have:i=n:=by omega
  subst this
  refine⟨c,P,e5' c k P now hl hk,hl,fun j=> ?_,hc,hc2,hle⟩
  rw[hP j]
  exact⟨fun⟨a,b⟩=>⟨a,b (by have:=(gE.1 a).1;omega)⟩,fun⟨a,b⟩=>⟨a,fun _=>b⟩⟩
 |succ e ih=>
  intro i P c hi hl hP hc hc2 hle
  obtain⟨p,hp⟩: ∃p,P[i]? =some p:=⟨_,q0a (by omega)⟩
  obtain⟨o,ho⟩: ∃o,now[i]? =some o:=⟨_,q0a (by omega)⟩
  rw[e5 c k i P now p o hl hnow hp ho (by omega)]
  by_cases h:p=true/\o=false
  ·rw[if_pos h]
   rw[h.1]at hp;rw[h.2]at ho
   have hcf:=w0f hp
   refine ih (i+1) (P.set i false) true (by omega) (by simp[hl]) (fun j=> ?_) (fun h=>by cases h) (fun _=> .inr (by omega)) (by omega)
   have hno: ¬inB now i:=fun h=>by rw[inB,ho]at h;cases h
   unfold inB
   rw[List.getElem?_set]
   by_cases hij:i=j
   ·subst hij
    rw[if_pos rfl,if_pos (by omega)]
    exact⟨fun h=>(by cases h),fun⟨_,g⟩=>absurd (g (by omega)) hno⟩
   ·rw[if_neg hij]
    exact(hP j).trans ⟨fun⟨a,b⟩=>⟨a,fun hj=>b (by omega)⟩,fun⟨a,b⟩=>⟨a,fun hj=>b (by omega)⟩⟩
  ·rw[if_neg h]
   refine ih (i+1) P c (by omega) hl (fun j=> ?_) hc hc2 hle
   refine(hP j).trans ⟨fun⟨a,b⟩=>⟨a,fun hj=> ?_⟩,fun⟨a,b⟩=>⟨a,fun hj=>b (by omega)⟩⟩
   by_cases hij:j=i
   ·subst hij
    have hpj:inB P j:=(hP j).2 ⟨a,b⟩
    rw[inB,hp]at hpj
    cases o with
    |true=>exact ho
    |false=>exact absurd ⟨Option.some.inj hpj,rfl⟩ h
   ·exact b (by omega)
include e4 e4' e5 e5' in
theorem Z1x{P0:List Bool}: ∀(e k:Nat) (P:List Bool) (c:Bool),k+e=Ts.length->P.length=n->(∀X,Post rows Ts X->(∀u,X u->u<n)-> ∀u,X u->inB P u)->
  (c=false->P=P0/\ ∀(k':Nat) (T:List Bool) (u:Nat),k'<k->Ts[k']? =some T->inB P0 u-> ∃d,Rn (nxR rows) (inB P0) (inB T) d u)->(c=true->cf P0<cf P)->cf P0<=cf P->
  ∃c' P',f4 c (k:Int) ⟨true,1,uBs P⟩=f3 c' ⟨true,1,uBs P'⟩/\P'.length=n/\(∀X,Post rows Ts X->(∀u,X u->u<n)-> ∀u,X u->inB P' u)/\(c'=false->P'=P0/\Post rows Ts (inB P0))/\(c'=true->cf P0<cf P'):=by
 intro e
 induction e with
 |zero=>
  intro k P c hk hl hX hc hc2 hle
  have:k=Ts.length:=by omega
  subst this
  refine⟨c,P,e4' c P,hl,hX,fun h=>⟨(hc h).1,fun u hu k' T hT=>(hc h).2 k' T u (gE.1 hT).1 hT hu⟩,hc2⟩
 |succ e ih=>
  intro k P c hk hl hX hc hc2 hle
  have hlt:k<Ts.length:=by omega
  obtain⟨now,n1,n2,n3⟩:=e4 c k P _ hl (q0a hlt)
  obtain⟨c',P',g1,g2,g3,g4,g5,g6⟩:=K1I e5 e5' hlt (c0:=c) hl n1 n 0 P c (by omega) hl (fun j=>⟨fun h=>⟨h,fun h=>by omega⟩,fun h=>h.1⟩) (fun h=>⟨rfl,h⟩) (fun h=> .inl h) (nR _)
  rw[n3]
  rw[show((0:Nat):Int)=0 from rfl]at g1
  rw[g1]
  refine ih (k+1) P' c' (by omega) g2 (fun X hX1 hX2 u hu=>(g3 u).2 ⟨hX X hX1 hX2 u hu,(n2 u).2 ⟨hX X hX1 hX2 u hu, ?_⟩⟩) (fun h=> ?_) (fun h=> ?_) (by omega)
  ·obtain⟨d,hd⟩:=hX1 u hu k _ (q0a hlt)
   exact⟨d,hd.mono (hX X hX1 hX2) fun _ _ h=>h⟩
  ·obtain⟨q1,q2⟩:=g4 h
   obtain⟨q3,q4⟩:=hc q2
   subst q3
   refine⟨q1,fun k' T u hk' hT hu=> ?_⟩
   by_cases hkk:k'<k
   ·exact q4 k' T u hkk hT hu
   ·have:k'=k:=by omega
    subst this
    rw[q0a hlt]at hT
    cases hT
    rw[<-q1]at hu
    exact((n2 u).1 ((g3 u).1 hu).2).2
  ·rcases g5 h with q |q
   ·have:=hc2 q;omega
   ·omega
include e3 e4 e4' e5 e5' in
theorem Z1y: ∀(d:Nat) (P:List Bool),n - cf P<=d->P.length=n->(∀X,Post rows Ts X->(∀u,X u->u<n)-> ∀u,X u->inB P u)->
  ∃P',f3 true ⟨true,1,uBs P⟩=some (.sl ⟨true,1,uBs P'⟩)/\P'.length=n/\(∀X,Post rows Ts X->(∀u,X u->u<n)-> ∀u,X u->inB P' u)/\Post rows Ts (inB P'):=by
 intro d
 induction d with
 |zero=>
  intro P hd hl hX
  obtain⟨c',P',g1,g2,g3,g4,g5⟩:=Z1x (P0:=P) e4 e4' e5 e5' Ts.length 0 P false (by omega) hl hX (fun _=>⟨rfl,fun k' T u h=>by omega⟩) (fun h=>by cases h) (nR _)
  rw[e3,if_pos rfl]
  rw[show((0:Nat):Int)=0 from rfl]at g1
  rw[g1]
  cases c' with
  |false=>obtain⟨rfl,q2⟩:=g4 rfl;exact⟨P',by rw[e3];simp[j0z],g2,g3,q2⟩
  |true=>have:=g5 rfl;have:=Q1B P';omega
 |succ d ih=>
  intro P hd hl hX
  obtain⟨c',P',g1,g2,g3,g4,g5⟩:=Z1x (P0:=P) e4 e4' e5 e5' Ts.length 0 P false (by omega) hl hX (fun _=>⟨rfl,fun k' T u h=>by omega⟩) (fun h=>by cases h) (nR _)
  rw[e3,if_pos rfl]
  rw[show((0:Nat):Int)=0 from rfl]at g1
  rw[g1]
  cases c' with
  |false=>obtain⟨rfl,q2⟩:=g4 rfl;exact⟨P',by rw[e3];simp[j0z],g2,g3,q2⟩
  |true=>have h1:=g5 rfl;exact ih P' (by omega) g2 g3
end
def uSs(b:Bool)(ss:List (Bool×List Bool)):U:= .sl b (ss.map fun x=> .sl x.1 (uBs x.2))
theorem Q1n{b:Bool}{ss:List (Bool×List Bool)}{k:Nat}{x:Bool×List Bool}(h:ss[k]? =some x):U.idx 1 (uSs b ss) (k:Int)=some (.sl x.1 (uBs x.2)):=by
 simp[U.idx,U.asL,uSs,elU,h,U.size,U.cells]
structure Rev (rows rows':List (Bool×List Int)):Prop where
 len:rows'.length=rows.length
 ok: ∀r∈rows',(∀y∈r.2,0<=y/\y<(rows.length:Int))/\r.2.length<=1000000000
 iff: ∀u v:Nat,nxR rows' u v↔(v:Int)∈(rows.getD u (false,[])).2
def Table(n:Nat)(rows:List (Bool×List Int)):Prop:=rows.length=n/\(∀r∈rows,∀y∈r.2,0<=y/\y<(n:Int))/\(rows.map fun r=>r.2.length).sum<=1000000
def HasRev(M:YM):Prop:= ∀(b:Bool) (n:Nat) (rows:List (Bool×List Int)),n<=1000000->Table n rows-> ∃rows',y82 M (uLs b rows)=some (.val (uLs true rows'))/\Rev rows rows'
def nxT(rows:List (Bool×List Int))(u v:Nat):Prop:=(v:Int)∈(rows.getD u (false,[])).2
section
variable{M:YM}{n:Nat}{rows:List (Bool×List Int)}
theorem Q1o(l:List Bool):Sx.fz (⟨true,1,uBs l⟩:Sx)= .sl true (uBs l):=rfl
theorem W0S(hn:n<=1000000){nx sets:U}: ∀(d k:Nat) (l:List Bool),k+d=n->l.length=n->(∀j,j<k->l[j]? =some true)->y44_1 M nx sets (k:Int) ⟨true,1,uBs l⟩=y44_1 M nx sets (n:Int) ⟨true,1,uBs (List.replicate n true)⟩:=by
 intro d
 induction d with
 |zero=>
  intro k l hk hl hj
  have:k=n:=by omega
  subst this
  congr 3
  refine List.ext_getElem? fun j=> ?_
  by_cases h:j<k
  ·rw[hj j h,List.getElem?_replicate,if_pos h]
  ·rw[List.getElem?_eq_none (by omega),List.getElem?_eq_none (by simp;omega)]
 |succ d ih=>
  intro k l hk hl hj
  rw[Q0S]
  simp only[uBs_length,hl,show((k:Int)<((n:Nat):Int)) by omega,dY,iT,j0j (show k<l.length by omega),iN,show(U.c (.bool true))=uB true from rfl,j0p (show k<l.length by omega),oS,q0b (show k<=1000000000 by omega)]
  refine ih (k+1) (l.set k true) (by omega) (by simp[hl]) fun j h=> ?_
  rw[List.getElem?_set]
  by_cases e:k=j
  ·subst e;rw[if_pos rfl,if_pos (by omega)]
  ·rw[if_neg e];exact hj j (by omega)
structure FairR (n:Nat) (rows:List (Bool×List Int)) (Ts:List (List Bool)) (P:List Bool):Prop where
 len:P.length=n
 max: ∀X,Post rows Ts X->(∀u,X u->u<n)-> ∀u,X u->inB P u
 post:Post rows Ts (inB P)
variable(hn:n<=1000000)(hT:Table n rows)(hrev:HasRev M)
include hn hT hrev
theorem K1J{b b2:Bool}{ss:List (Bool×List Bool)}(hs: ∀x∈ss,x.2.length=n)(hm:ss.length<=1000000)(h0:ss≠[]):
  ∃rows' P,Rev rows rows'/\y44 M (uLs b rows) (uSs b2 ss)=some (.sl ⟨true,1,uBs P⟩)/\FairR n rows' (ss.map (·.2)) P:=by
 obtain⟨rows',r1,r2⟩:=hrev b n rows hn hT
 have hrl:rows'.length=n:=by rw[r2.len,hT.1]
 have hrok: ∀r∈rows',(∀y∈r.2,0<=y/\y<(n:Int))/\r.2.length<=1000000000:=fun r hr=>by have:=r2.ok r hr;rw[hT.1]at this;exact this
 have hsl:(uSs b2 ss).len=some ss.length:=by simp[uSs,U.len,U.asL]
 have hp:ss.length≠0:=fun h=>h0 (List.length_eq_zero_iff.1 h)
 obtain⟨P,k1,k2,k3,k4⟩:=Z1y (n:=n) (rows:=rows') (Ts:=ss.map (·.2)) (f3:=fun c v=>y44_3b M (uLs true rows') (uSs b2 ss) c v) (f4:=fun c k v=>y44_4b M (uLs true rows') (uSs b2 ss) c k v) (f5:=fun c k i v now=>y44_5b M (uLs true rows') (uSs b2 ss) c k i v now)
  (fun c v=>Y0I M _ _ c v)
  (fun c k P T hP hT'=>by
   rw[List.getElem?_map]at hT'
   obtain⟨x,hx,rfl⟩:=oM.1 hT'
   have hk:=(gE.1 hx).1
   obtain⟨out,o1,o2,o3⟩:=w1p (M:=M) (rows:=rows') (P:=P) (T:=x.2) (bb:=true) (b2:=x.1) hn hrl hP (hs x (List.mem_of_getElem? hx)) hrok
   refine⟨out,o2,o3, ?_⟩
   show y44_4b M _ _ _ _ _=_
   rw[J0P]
   simp only[hsl,oS,show((k:Int)<((ss.length:Nat):Int)) by omega,dY,iT,Q1n hx,Q1o]
   rw[show U.cell (.sl x.1 (uBs x.2)) 0=some (.sl x.1 (uBs x.2))from rfl]
   simp only[oS,o1,Rz.asSl])
  (fun c P=>by
   show y44_4b M _ _ _ _ _=_
   rw[J0P]
   simp only[hsl,oS,List.length_map,Int.lt_irrefl,dF,bF,iF])
  (fun c k i P now p o hP hnow hp ho hi=>by
   show y44_5b M _ _ _ _ _ _ _=_
   rw[J0Q]
   simp only[uBs_length,hP,show((i:Int)<((n:Nat):Int)) by omega,dY,iT,j0j (show i<P.length by omega),j0j (show i<now.length by omega),iN,j0e hp,j0e ho,oS,cell_c,asB_c,Y0J,q0b (show i<=1000000000 by omega),show(U.c (.bool false))=uB false from rfl,j0p (show i<P.length by omega)]
   cases p<;>cases o<;>simp)
  (fun c k P now hP hk=>by
   show y44_5b M _ _ _ _ _ _ _=_
   rw[J0Q]
   rw[List.length_map]at hk
   simp only[uBs_length,hP,Int.lt_irrefl,dF,bF,iF,q0b (show k<=1000000000 by omega)])
  n (List.replicate n true) (by omega) (by simp) (fun X _ hX u hu=>by
   show(List.replicate n true)[u]? =some true
   rw[List.getElem?_replicate,if_pos (hX u hu)])
 refine⟨rows',P,r2, ?_,k2,k3,k4⟩
 rw[w1a]
 have hlen:(uLs b rows).len=some rows.length:=by simp[uLs,U.len,U.asL]
 have hrep:List.replicate n (U.c (.bool false))=uBs (List.replicate n false):=by simp[uBs]
 simp only[hlen,oS,hT.1,iN,hrep]
 rw[if_pos ⟨by omega,by omega,trivial⟩]
 have:=W0S (M:=M) hn (nx:=uLs b rows) (sets:=uSs b2 ss) n 0 (List.replicate n false) (by omega) (by simp) (fun j h=>by omega)
 rw[show((0:Nat):Int)=0 from rfl]at this
 rw[this,Q0S]
 simp only[uBs_length,List.length_replicate,Int.lt_irrefl,dF,bF,iF,r1,oS,toU_val,hsl,show¬(((ss.length:Nat):Int)=0) by omega]
 rw[show U.one (uLs true rows')=some (uLs true rows')from rfl]
 simp only[oS,Y0H]
 exact k1
theorem K1K{b b2:Bool}: ∃rows' P,Rev rows rows'/\y44 M (uLs b rows) (uSs b2 [])=some (.sl ⟨true,1,uBs P⟩)/\FairR n rows' [List.replicate n true] P:=by
 obtain⟨rows',r1,r2⟩:=hrev b n rows hn hT
 have hrl:rows'.length=n:=by rw[r2.len,hT.1]
 have hrok: ∀r∈rows',(∀y∈r.2,0<=y/\y<(n:Int))/\r.2.length<=1000000000:=fun r hr=>by have:=r2.ok r hr;rw[hT.1]at this;exact this
 obtain⟨P,k1,k2,k3,k4⟩:=Z1y (n:=n) (rows:=rows') (Ts:=[List.replicate n true]) (f3:=fun c v=>y44_3 M (uLs true rows') c v ⟨true,1,[.sl true (uBs (List.replicate n true))]⟩) (f4:=fun c k v=>y44_4 M (uLs true rows') c k v ⟨true,1,[.sl true (uBs (List.replicate n true))]⟩) (f5:=fun c k i v now=>y44_5 M (uLs true rows') c k i v ⟨true,1,[.sl true (uBs (List.replicate n true))]⟩ now)
  (fun c v=>z1r M _ c v _)
  (fun c k P T hP hT'=>by
   have hk:k=0:=by have:=(gE.1 hT').1;simpa using this
   subst hk
   have hTe:T=List.replicate n true:=by simpa using hT'.symm
   subst hTe
   obtain⟨out,o1,o2,o3⟩:=w1p (M:=M) (rows:=rows') (P:=P) (T:=List.replicate n true) (bb:=true) (b2:=true) hn hrl hP (by simp) hrok
   refine⟨out,o2,o3, ?_⟩
   show y44_4 M _ _ _ _ _=_
   rw[K0U]
   rw[show Sx.has (⟨true,1,[.sl true (uBs (List.replicate n true))]⟩:Sx) 1 ((0:Nat):Int)=true from rfl]
   simp only[List.length_cons,List.length_nil,show(((0:Nat):Int)<((0+1:Nat):Int)) by omega,dY,iT,iN,List.getElem?_cons_zero,oS,Q1o]
   rw[show U.cell (.sl true (uBs (List.replicate n true))) 0=some (.sl true (uBs (List.replicate n true)))from rfl]
   simp only[oS,o1,Rz.asSl])
  (fun c P=>by
   show y44_4 M _ _ _ _ _=_
   rw[K0U]
   simp only[List.length_cons,List.length_nil,Int.lt_irrefl,dF,bF,iF])
  (fun c k i P now p o hP hnow hp ho hi=>by
   show y44_5 M _ _ _ _ _ _ _=_
   rw[K0V]
   simp only[uBs_length,hP,show((i:Int)<((n:Nat):Int)) by omega,dY,iT,j0j (show i<P.length by omega),j0j (show i<now.length by omega),iN,j0e hp,j0e ho,oS,cell_c,asB_c,z1s,q0b (show i<=1000000000 by omega),show(U.c (.bool false))=uB false from rfl,j0p (show i<P.length by omega)]
   cases p<;>cases o<;>simp)
  (fun c k P now hP hk=>by
   show y44_5 M _ _ _ _ _ _ _=_
   rw[K0V]
   have:k=0:=by simpa using hk
   simp only[uBs_length,hP,Int.lt_irrefl,dF,bF,iF,q0b (show k<=1000000000 by omega)])
  n (List.replicate n true) (by omega) (by simp) (fun X _ hX u hu=>by
   show(List.replicate n true)[u]? =some true
   rw[List.getElem?_replicate,if_pos (hX u hu)])
 refine⟨rows',P,r2, ?_,k2,k3,k4⟩
 rw[w1a]
 have hlen:(uLs b rows).len=some rows.length:=by simp[uLs,U.len,U.asL]
 have hrep:List.replicate n (U.c (.bool false))=uBs (List.replicate n false):=by simp[uBs]
 simp only[hlen,oS,hT.1,iN,hrep]
 rw[if_pos ⟨by omega,by omega,trivial⟩]
 have:=W0S (M:=M) hn (nx:=uLs b rows) (sets:=uSs b2 []) n 0 (List.replicate n false) (by omega) (by simp) (fun j h=>by omega)
 rw[show((0:Nat):Int)=0 from rfl]at this
 have hap:Sx.app (⟨true,1,[]⟩:Sx) 1 (uBs (List.replicate n true))=some ⟨true,1,uBs (List.replicate n true)⟩:=Z0W (fun x hx=>by
  simp only[uBs,List.mem_map]at hx
  obtain⟨c,_,rfl⟩:=hx;rfl) (by simp;omega)
 rw[this,Q0S]
 simp only[uBs_length,List.length_replicate,Int.lt_irrefl,dF,bF,iF,r1,oS,toU_val,hap]
 rw[show U.one (uLs true rows')=some (uLs true rows')from rfl,show(uSs b2 []).len=some 0 from rfl]
 simp only[oS,show(((0:Nat):Int)=0)from rfl,dY,iT,z1q,Q1o]
 exact k1
end
section
variable{n:Nat}{rows rows':List (Bool×List Int)}{P:List Bool}
theorem Z1z(h:rows.length=n){u v:Nat}(hx:nxT rows u v):u<n:=by
 by_cases hu:u<rows.length
 ·omega
 ·rw[nxT,lG,List.getElem?_eq_none (by omega)]at hx
  simp at hx
theorem w1i(h:Rev rows rows'):nxR rows'=nxT rows:=by
 funext u v
 exact propext (h.iff u v)
theorem Inf.lt{m:Nat}{S:Nat->Nat->Prop}(h:rows.length=n){u:Nat}(hi:Inf (nxT rows) m S u):u<n:=by
 obtain⟨f,rfl,h1,_⟩:=hi
 exact Z1z h (h1 0)
theorem FairR.inf{Ts:List (List Bool)}(hl:rows.length=n)(hr:Rev rows rows')(h:FairR n rows' Ts P)(hm:0<Ts.length)(u:Nat):
  inB P u↔Inf (nxT rows) Ts.length (fun k=>inB (Ts.getD k [])) u:=by
 have e:=w1i hr
 have hg: ∀k,k<Ts.length->Ts[k]? =some (Ts.getD k []):=fun k hk=>by rw[lG,List.getElem?_eq_getElem hk];rfl
 constructor
 ·intro hu
  refine k0M (P:=inB P) hm (fun w hw k hk=> ?_) hu
  have:=h.post w hw k _ (hg k hk)
  rw[e]at this
  exact this
 ·intro hi
  refine h.max (fun w=>Inf (nxT rows) Ts.length (fun k=>inB (Ts.getD k [])) w) (fun w hw k T hT=> ?_) (fun w hw=>Inf.lt hl hw) u hi
  have hk:=(gE.1 hT).1
  rw[hg k hk]at hT
  cases hT
  rw[e]
  exact Inf.reach (S:=fun k=>inB (Ts.getD k [])) (fun _ h=>h) hk hw
theorem FairR.inf0(hl:rows.length=n)(hr:Rev rows rows')(h:FairR n rows' [List.replicate n true] P)(u:Nat)(S:Nat->Nat->Prop):
  inB P u↔Inf (nxT rows) 0 S u:=by
 have e:=w1i hr
 constructor
 ·intro hu
  refine w0B (P:=inB P) (fun w hw=> ?_) hu
  obtain⟨d,hd⟩:=h.post w hw 0 _ rfl
  rw[e]at hd
  exact⟨d,hd.mono (fun _ h=>h) fun _ _ _=>trivial⟩
 ·intro hi
  refine h.max (fun w=>Inf (nxT rows) 0 S w) (fun w hw k T hT=> ?_) (fun w hw=>Inf.lt hl hw) u hi
  have hk:k=0:=by have:=(gE.1 hT).1;simpa using this
  subst hk
  have hTe:T=List.replicate n true:=by simpa using hT.symm
  subst hTe
  obtain⟨d,hd⟩:=Inf.none (P:=fun w=>Inf (nxT rows) 0 S w) (fun _ h=>h) hw
  rw[e]
  exact⟨d,hd.mono (fun _ h=>h) fun w hw _=>by rw[inB,List.getElem?_replicate,if_pos (Inf.lt hl hw)]⟩
end
structure Tabs (H:Heap) (b:Nat) (c:List C) (r:List (List Int)):Prop where
 len:c.length=r.length
 own: ∀(k:Nat) (x:C) (l:List Int),c[k]? =some x->r[k]? =some l->OInts H b x l/\(l=[]->x= .nilSlice)
 apart: ∀(j k:Nat) (x y:C),j≠k->c[j]? =some x->c[k]? =some y->Apart x y
theorem OInts.put{H:Heap}{b i:Nat}{o:Vm.Obj}{x:C}{l:List Int}(h:OInts H b x l)(hi:i<b):OInts (H.put i o) b x l:=by
 refine⟨h.1,h.2.1,h.2.2.imp id fun⟨j,p,cs,h1,h2,h3,h4,h5⟩=>⟨j,p,cs,h1,h2,h3, ?_,h5⟩⟩
 rw[q0d (by omega)]
 exact h4
theorem Tabs.put{H:Heap}{b i:Nat}{o:Vm.Obj}{c:List C}{r:List (List Int)}(h:Tabs H b c r)(hi:i<b):Tabs (H.put i o) b c r:=
 ⟨h.len,fun k x l hx hl=>⟨OInts.put (h.own k x l hx hl).1 hi,(h.own k x l hx hl).2⟩,h.apart⟩
theorem Tabs.app{H:Heap}{lim b k:Nat}{c:List C}{r:List (List Int)}{x:C}{l:List Int}(h:Tabs H b c r)(hb:lim<=b)(hx:c[k]? =some x)(hl:r[k]? =some l)(v:Int)(hroom:l.length+1<=2 ^ 36):
  Heap.cellsOf (H.alloc (.cells 1 [.int .i64 v])) 1 (.slice H.next 0 1)=some [.int .i64 v]/\
  ∃c' H',Heap.app lim (H.alloc (.cells 1 [.int .i64 v])) 1 x [.int .i64 v] 1=some (c',H')/\Tabs H' b (c.set k c') (r.set k (l++[v]))/\(∀i,i<b->H'.get i=H.get i)/\H.next<=H'.next:=by
 obtain⟨ho,_⟩:=h.own k x l hx hl
 obtain⟨h1,c',H',h2,h3,h4,h5⟩:=OInts.append1 (lim:=lim) ho hb v hroom
 refine⟨h1,c',H',h2,⟨by simp[h.len], ?_, ?_⟩,fun i hi=>h4.keep i (nL hi ho.1) ?_,h4.next⟩
 ·intro j y m hy hm
  rw[List.getElem?_set]at hy hm
  by_cases hj:k=j
  ·rw[if_pos hj]at hy hm
   split at hy
   ·split at hm
    ·cases hy;cases hm
     exact⟨h3,fun e=>by simp at e⟩
    ·cases hm
   ·cases hy
  ·rw[if_neg hj]at hy hm
   obtain⟨g1,g2⟩:=h.own j y m hy hm
   exact⟨Own.kept g1 h4 (h.apart k j x y hj hx hy),g2⟩
 ·have fresh: ∀(j:Nat) (y:C),c[j]? =some y->Apart c' y/\Apart y c':=by
   intro j y hy
   have hjl:j<r.length:=by rw[<-h.len];exact(gE.1 hy).1
   obtain⟨g1,_⟩:=h.own j y r[j] hy (List.getElem?_eq_getElem hjl)
   have hyy: ∀i o n,y= .slice i o n->i<H.next:=by
    intro i o n e
    rcases g1.2.2 with⟨e2,_⟩ |⟨i',o',cs,e2,_,e3,_⟩
    ·rw[e]at e2;cases e2
    ·rw[e]at e2;cases e2;exact e3
   refine⟨fun i o n p m e1 e2=> ?_,fun i o n p m e1 e2=> ?_⟩
   ·have:=hyy _ _ _ e2
    rcases h5 with e |⟨i',o',n',e,e3⟩
    ·rw[e]at e1;cases e1
    ·rw[e]at e1;cases e1;omega
   ·have:=hyy _ _ _ e1
    rcases h5 with e |⟨i',o',n',e,e3⟩
    ·rw[e]at e2;cases e2
    ·rw[e]at e2;cases e2;omega
  intro i j y z hij hy hz
  rw[List.getElem?_set]at hy hz
  by_cases hi:k=i
  ·rw[if_pos hi]at hy
   have hj:k≠j:=fun e=>hij (hi.symm.trans e)
   rw[if_neg hj]at hz
   split at hy
   ·cases hy;exact(fresh j z hz).1
   ·cases hy
  ·rw[if_neg hi]at hy
   by_cases hj:k=j
   ·rw[if_pos hj]at hz
    split at hz
    ·cases hz;exact(fresh i y hy).2
    ·cases hz
   ·rw[if_neg hj]at hz
    exact h.apart i j y z hij hy hz
 ·intro o n e
  rcases ho.2.2 with⟨e2,_⟩ |⟨i',o',cs,e2,e3,_⟩
  ·rw[e]at e2;cases e2
  ·rw[e]at e2;cases e2;omega
theorem q0c{H:Heap}{i o z:Nat}{cs:List C}(h:H.get i=some (.cells z cs)):Heap.ld H i o=cs[o]? :=by
 unfold Heap.ld;rw[h]
theorem J0g{H:Heap}{lim i o z:Nat}{cs:List C}{x:C}(h:H.get i=some (.cells z cs))(hl:lim<=i)(ho:o<cs.length):Heap.st lim H i o [x]=some (H.put i (.cells z (cs.set o x))):=by
 unfold Heap.st
 rw[h]
 simp only
 rw[if_pos ⟨hl,by simp;omega⟩]
 rfl
theorem seen_same{H:Heap}{i o:Nat}{x:C}(h:Heap.ld H i o=some x):seenC H i o .c (.c x)=true:=by
 unfold seenC
 rw[h]
 exact k0v x
theorem z1Y{H:Heap}{i o:Nat}{n:Int}(h:Heap.ld H i o=some (.int .i64 n)):seenC H i o (.int .i64) (.c (.int .i64 n))=true:=by
 unfold seenC
 rw[h]
 simp only[oS,K0.take,asI_int]
 exact k0v _
theorem z1Z{H:Heap}{b:Nat}(h:b<=H.next){c:List C}{r:List (List Int)}(hl:c.length=r.length)(hc: ∀x∈c,x= .nilSlice)(hr: ∀l∈r,l=[]):Tabs H b c r:=by
 refine⟨hl,fun k x l hx hk=> ?_,fun j k x y _ hx _ i o n p m e _=> ?_⟩
 ·have e1:=hc x (List.mem_of_getElem? hx)
  have e2:=hr l (List.mem_of_getElem? hk)
  subst e1 e2
  exact⟨Own.nil h 1,fun _=>rfl⟩
 ·rw[hc x (List.mem_of_getElem? hx)]at e
  cases e
theorem Tabs.grow{H H':Heap}{b:Nat}{c:List C}{r:List (List Int)}(h:Tabs H b c r)(g:Grow H H'):Tabs H' b c r:=
 ⟨h.len,fun k x l hx hl=>⟨Own.grow (h.own k x l hx hl).1 g,(h.own k x l hx hl).2⟩,h.apart⟩
def TabO(H:Heap)(b:Nat)(r:List (List Int)):Prop:=b<H.next/\ ∃c,H.get b=some (.cells 1 c)/\c.length=r.length/\Tabs H (b+1) c r
theorem TabO.grow{H H':Heap}{b:Nat}{r:List (List Int)}(h:TabO H b r)(g:Grow H H'):TabO H' b r:=by
 obtain⟨h0,c,h1,h2,h3⟩:=h
 exact⟨nL h0 g.next,c,by rw[g.keep b h0];exact h1,h2,h3.grow g⟩
theorem TabO.new(H:Heap)(n:Nat):TabO (H.alloc (.cells 1 (List.replicate n [C.nilSlice]).flatten)) H.next (List.replicate n []):=by
 have e:(List.replicate n [C.nilSlice]).flatten=List.replicate n C.nilSlice:=by
  rw[show [C.nilSlice]=List.replicate 1 C.nilSlice from rfl,List.flatten_replicate_replicate,Nat.mul_one]
 rw[e]
 exact⟨Nat.lt_succ_self _,_,alloc_new _ _,by simp,z1Z (nR _) (by simp) (fun x hx=>List.eq_of_mem_replicate hx) fun l hl=>List.eq_of_mem_replicate hl⟩
theorem TabO.push{H:Heap}{lim b k:Nat}{r:List (List Int)}{l:List Int}(h:TabO H b r)(hl:lim<=b)(hk:r[k]? =some l)(v:Int)(hroom:l.length+1<=2 ^ 36):
  ∃x,Heap.ld H b k=some x/\Heap.cellsOf (H.alloc (.cells 1 [.int .i64 v])) 1 (.slice H.next 0 1)=some [.int .i64 v]/\
  ∃c' H1,Heap.app lim (H.alloc (.cells 1 [.int .i64 v])) 1 x [.int .i64 v] 1=some (c',H1)/\(∀i,i<b+1->H1.get i=H.get i)/\
  ∃H2,Heap.st lim H1 b k [c']=some H2/\TabO H2 b (r.set k (l++[v]))/\(∀i,i<b->H2.get i=H.get i)/\H.next<=H2.next:=by
 obtain⟨h0,c,h1,h2,h3⟩:=h
 have hkl:k<r.length:=(gE.1 hk).1
 have hck:c[k]? =some c[k]:=List.getElem?_eq_getElem (by omega)
 obtain⟨p1,c',H1,p2,p3,p4,p5⟩:=h3.app (lim:=lim) (by omega) hck hk v hroom
 have hst:Heap.st lim H1 b k [c']=some (H1.put b (.cells 1 (c.set k c'))):=J0g (by rw[p4 b (by omega)];exact h1) hl (by omega)
 refine⟨c[k],by rw[q0c h1];exact hck,p1,c',H1,p2,p4,_,hst,⟨by show b<H1.next;omega,c.set k c',put_same _ _ _,by simp[h2],p3.put (by omega)⟩,fun i hi=> ?_,p5⟩
 rw[q0d (by omega)]
 exact p4 i (by omega)
def tabD(n:Nat)(ps:List (Int×Int)):List (List Int):=(List.range n).map fun(j:Nat)=>(ps.filter fun p=>decide (p.2=(j:Int))).map (·.1)
theorem j0d(n:Nat)(ps:List (Int×Int)):(tabD n ps).length=n:=by simp[tabD]
theorem j0F{n:Nat}{ps:List (Int×Int)}{j:Nat}(h:j<n):(tabD n ps)[j]? =some ((ps.filter fun p=>decide (p.2=(j:Int))).map (·.1)):=by simp[tabD,h]
theorem J0h(n:Nat):tabD n []=List.replicate n []:=by
 refine List.ext_getElem? fun j=> ?_
 by_cases h:j<n
 ·rw[j0F h,List.getElem?_replicate,if_pos h];rfl
 ·rw[List.getElem?_eq_none (by rw[j0d];omega),List.getElem?_eq_none (by simp;omega)]
theorem w0J{n:Nat}{ps:List (Int×Int)}{j:Nat}{v:Int}(h:j<n):tabD n (ps++[(v,(j:Int))])=(tabD n ps).set j (((ps.filter fun p=>decide (p.2=(j:Int))).map (·.1))++[v]):=by
 refine List.ext_getElem? fun i=> ?_
 rw[List.getElem?_set]
 by_cases hi:i<n
 ·rw[j0F hi,j0F hi,j0d,List.filter_append,List.map_append]
  by_cases e:j=i
  ·subst e;simp[hi]
  ·have: ¬((j:Int)=(i:Int)):=by omega
   simp[e,this]
 ·rw[List.getElem?_eq_none (by rw[j0d];omega),List.getElem?_eq_none (by rw[j0d];omega)]
  have:j≠i:=by omega
  simp[this]
theorem j0G(ps:List (Int×Int))(j:Nat):((ps.filter fun p=>decide (p.2=(j:Int))).map (·.1)).length<=ps.length:=by
 rw[List.length_map];exact List.length_filter_le _ _
def tabU(r:List (List Int)):List (Bool×List Int):=r.map fun l=>(!l.isEmpty,l)
section
variable{H:Heap}{F:Nat->Prop}
theorem w0q: ∀l:List Int,EsR H F (l.map uI) 1 (l.map rowI).flatten
 | []=>rfl
 |n::l=>⟨[.int .i64 n],_,rfl,rfl,⟨rfl,rfl⟩,w0q l⟩
theorem Z1F{b:Nat}{x:C}{l:List Int}(h:OInts H b x l)(hn:l=[]->x= .nilSlice)(hF: ∀i,b<=i->i<H.next->F i):UC H F (uIs (!l.isEmpty) l) [x]:=by
 by_cases hl:l=[]
 ·subst hl
  rw[hn rfl]
  exact .inl ⟨rfl,rfl,rfl⟩
 ·rcases h.2.2 with⟨_,h2⟩ |⟨i,o,cs,h1,h2,h3,h4,h5,h6⟩
  ·exact absurd (by simpa using h2) hl
  ·have hb:(!l.isEmpty)=true:=by cases l;exact absurd rfl hl;rfl
   rw[List.length_map]at h1 h5 h6
   refine .inr ⟨hb,i,o,cs,1,by rw[h1,List.length_map],hF i h2 h3,h4,by rw[List.length_map];exact h5, ?_⟩
   rw[List.length_map,h6]
   exact w0q l
theorem q1k: ∀{us:List U} {cs:List C},us.length=cs.length->(∀(k:Nat) u c,us[k]? =some u->cs[k]? =some c->UC H F u [c])->EsR H F us 1 cs
 | [],[],_,_=>rfl
 |u::us,c::cs,hl,h=>⟨[c],cs,rfl,rfl,h 0 u c rfl rfl,q1k (by simpa using hl) fun k u' c' h1 h2=>h (k+1) u' c' (by simpa using h1) (by simpa using h2)⟩
 | [],_::_,hl,_=>by cases hl
 |_::_,[],hl,_=>by cases hl
theorem TabO.uc{b:Nat}{r:List (List Int)}(h:TabO H b r)(hF: ∀i,b<=i->i<H.next->F i):UC H F (uLs true (tabU r)) [.slice b 0 r.length]:=by
 obtain⟨h0,c,h1,h2,h3⟩:=h
 refine .inr ⟨rfl,b,0,c,1,by simp[tabU],hF b (nR _) h0,h1,by simp[tabU];omega, ?_⟩
 rw[List.drop_zero]
 simp only[tabU,List.length_map,Nat.mul_one]
 rw[List.take_of_length_le (by omega)]
 refine q1k (by simp;omega) fun k u x hu hx=> ?_
 simp only[List.map_map,List.getElem?_map]at hu
 obtain⟨l,hl,rfl⟩:=oM.1 hu
 obtain⟨g1,g2⟩:=h3.own k x l hx hl
 exact Z1F g1 g2 fun i hi hi2=>hF i (by omega) hi2
theorem rdN{b:Bool}{l:List Int}{c:C}(h:UC H F (uIs b l) [c]){k:Nat}{n:Int}(hk:l[k]? =some n): ∃i o,C.elem 1 c (k:Int)=some (i,o)/\F i/\H.ld i o=some (.int .i64 n):=by
 obtain⟨i,o,z,cs,e1,e2,e3,e4,e5⟩:=h.elem (k:=k) (u:=uI n) (by simp[hk])
 exact⟨i,o,e1,e2,ldX e3 (z0w e5.2)⟩
theorem rdL{b:Bool}{xs:List (Bool×List Int)}{c:C}(h:UC H F (uLs b xs) [c]){k:Nat}{x:Bool×List Int}(hk:xs[k]? =some x): ∃i o c2,C.elem 1 c (k:Int)=some (i,o)/\F i/\H.ld i o=some c2/\UC H F (uIs x.1 x.2) [c2]:=by
 obtain⟨i,o,z,cs,e1,e2,e3,e4,e5⟩:=h.elem (k:=k) (u:=uIs x.1 x.2) (by simp[hk])
 rw[size_uIs]at e1 e4 e5
 have hlen:((cs.drop o).take 1).length=1:=by rw[List.length_take,List.length_drop];omega
 match hc:(cs.drop o).take 1,hlen with
 | [c2],_=>
  rw[hc]at e5
  exact⟨i,o,c2,e1,e2,ldX e3 (z0w hc),e5⟩
theorem J0i{b:Bool}{l:List Int}{c:C}(h:UC H F (uIs b l) [c]):C.len c=some l.length:=by have:=UC.lenC h;simpa using this
theorem J1q{b:Bool}{l:List (Bool×List Int)}{c:C}(h:UC H F (uLs b l) [c]):C.len c=some l.length:=by have:=UC.lenC h;simpa using this
end
structure FrB (b:Nat) (H0 H:Heap):Prop where
 next:b<=H.next
 old: ∀i,i<b->H.get i=H0.get i
theorem j0Y{b:Nat}{H0 H:Heap}{F:Nat->Prop}{u:U}{xs:List C}(h:UC H0 F u xs)(f:FrB b H0 H)(hF: ∀i,F i->i<b):UC H F u xs:=h.mono ⟨fun _ h=>h,fun i hi=>f.old i (hF i hi)⟩
theorem q0j{b n y:Nat}(h:y<n):C.elem 1 (.slice b 0 n) (y:Int)=some (b,y):=by
 simp only[C.elem]
 rw[if_pos ⟨by omega,by omega⟩];simp
def prs(s:Nat):List (Bool×List Int)->List (Int×Int)
 | []=>[]
 |r::rs=>r.2.map (fun y=>((s:Int),y))++prs (s+1) rs
theorem Z0S: ∀(s:Nat) (rows:List (Bool×List Int)),(prs s rows).length=(rows.map fun r=>r.2.length).sum
 |_,[]=>rfl
 |s,r::rs=>by simp[prs,Z0S (s+1) rs]
theorem Z0T: ∀(s:Nat) (rows:List (Bool×List Int)) (u y:Int),(u,y)∈prs s rows↔ ∃k r,rows[k]? =some r/\u=((s+k:Nat):Int)/\y∈r.2
 |s,[],u,y=>by simp[prs]
 |s,r::rs,u,y=>by
  rw[prs,mA,Z0T (s+1) rs]
  constructor
  ·rintro(h |⟨k,r',h1,h2,h3⟩)
   ·obtain⟨z,h1,h2⟩:=List.mem_map.1 h
    cases h2
    exact⟨0,r,rfl,rfl,h1⟩
   ·exact⟨k+1,r',by simpa using h1,by rw[h2];congr 1;omega,h3⟩
  ·rintro⟨k,r',h1,h2,h3⟩
   cases k with
   |zero=>simp at h1;subst h1;exact .inl (List.mem_map.2 ⟨y,h3,by rw[h2];rfl⟩)
   |succ k=>exact .inr ⟨k,r',by simpa using h1,by rw[h2];congr 1;omega,h3⟩
def revT(rows:List (Bool×List Int)):List (Bool×List Int):=tabU (tabD rows.length (prs 0 rows))
theorem J1s{n:Nat}{rows:List (Bool×List Int)}(h:Table n rows):Rev rows (revT rows):=by
 obtain⟨h1,h2,h3⟩:=h
 refine⟨by simp[revT,tabU,j0d],fun r hr=> ?_,fun u v=> ?_⟩
 ·obtain⟨l,hl,rfl⟩:=List.mem_map.1 hr
  obtain⟨j,hj,rfl⟩:=List.mem_map.1 hl
  refine⟨fun y hy=> ?_, ?_⟩
  ·obtain⟨p,hp,rfl⟩:=List.mem_map.1 hy
   obtain⟨k,r',g1,g2,_⟩:=(Z0T 0 rows p.1 p.2).1 (List.mem_filter.1 hp).1
   have:=(gE.1 g1).1
   rw[g2];omega
  ·have:=j0G (prs 0 rows) j
   rw[Z0S]at this
   show(((prs 0 rows).filter _).map _).length<=_
   omega
 ·have key:nxR (revT rows) u v↔v<rows.length/\((u:Int),(v:Int))∈prs 0 rows:=by
   unfold nxR revT tabU
   rw[lG,List.getElem?_map]
   by_cases hv:v<rows.length
   ·rw[j0F hv]
    simp only[Option.map_some,Option.getD_some,List.mem_map,List.mem_filter,dE]
    constructor
    ·rintro⟨⟨a,b⟩,⟨g1,g2⟩,g3⟩
     simp only at g2 g3
     subst g2 g3
     exact⟨hv,g1⟩
    ·rintro⟨_,g⟩;exact⟨_,⟨g,rfl⟩,rfl⟩
   ·rw[List.getElem?_eq_none (by rw[j0d];omega)]
    simp[hv]
  rw[key,Z0T]
  constructor
  ·rintro⟨_,k,r,g1,g2,g3⟩
   have:u=k:=by omega
   subst this
   rw[lG,g1];exact g3
  ·intro hm
   by_cases hu:u<rows.length
   ·have e:rows[u]? =some rows[u]:=List.getElem?_eq_getElem hu
    rw[lG,e]at hm
    have:=h2 rows[u] (lM hu) _ hm
    exact⟨by omega,u,rows[u],e,by omega,hm⟩
   ·rw[lG,List.getElem?_eq_none (by omega)]at hm
    simp at hm
section
variable{M:Mach}{H0:Heap}{F:Nat->Prop}{b n:Nat}{bb:Bool}{rows:List (Bool×List Int)}{c:C}
theorem Y0E(hl:M.lim<=b)(hF: ∀i,F i->i<b)(hn:n<=1000000)(ht:Table n rows)(hc:UC H0 F (uLs bb rows) [c]){i:Nat}{r:Bool×List Int}(hi:rows[i]? =some r)(hr2:r.2.length<=1000000):
  ∀(e k:Nat) (ps:List (Int×Int)) (H:Heap),k+e=r.2.length->ps.length+e<=1000000->FrB b H0 H->TabO H b (tabD n ps)->
  ∃H',f82_2 M c (.slice b 0 n) (i:Int) (k:Int) H=f82_1 M c (.slice b 0 n) ((i+1:Nat):Int) H'/\FrB b H0 H'/\TabO H' b (tabD n (ps++(r.2.drop k).map fun y=>((i:Int),y))):=by
 have hil:i<rows.length:=(gE.1 hi).1
 have hin:i<n:=by have:=ht.1;omega
 intro e
 induction e with
 |zero=>
  intro k ps H hk hp f t
  obtain⟨i1,o1,c2,g1,g2,g3,g4⟩:=rdL (j0Y hc f hF) hi
  refine⟨H, ?_,f,by rw[dL (by omega)];simpa using t⟩
  rw[W0C]
  simp only[g1,oS,g3,J0i g4,show¬((k:Int)<((r.2.length:Nat):Int)) by omega,dF,bF,iF,q0b (show i<=1000000000 by omega)]
 |succ e ih=>
  intro k ps H hk hp f t
  have hlt:k<r.2.length:=by omega
  obtain⟨i1,o1,c2,g1,g2,g3,g4⟩:=rdL (j0Y hc f hF) hi
  obtain⟨y0,y1⟩:=ht.2.1 r (List.mem_of_getElem? hi) r.2[k] (lM hlt)
  obtain⟨y,hy⟩:=iZ y0
  have hget:r.2[k]? =some (y:Int):=by rw[q0a hlt,hy]
  rw[hy]at y1
  have hyn:y<n:=by omega
  obtain⟨i2,o2,k1,k2,k3⟩:=rdN g4 hget
  have hrl:=j0G ps y
  obtain⟨x,q1,q2,c',H1,q3,q4,H2,q5,q6,q7,q8⟩:=t.push hl (j0F hyn) (i:Int) (by omega)
  rw[<-w0J hyn]at q6
  have f2:FrB b H0 H2:=⟨nT f.next q8,fun j hj=>by rw[q7 j hj];exact f.old j hj⟩
  have s1:seenC H1 i1 o1 .c (.c c2)=true:=seen_same (by rw[show Heap.ld H1 i1 o1=Heap.ld H i1 o1 from by unfold Heap.ld;rw[q4 _ (by have:=hF _ g2;omega)]];exact g3)
  have s2:seenC H1 i2 o2 (.int .i64) (.c (.int .i64 (y:Int)))=true:=z1Y (by rw[show Heap.ld H1 i2 o2=Heap.ld H i2 o2 from by unfold Heap.ld;rw[q4 _ (by have:=hF _ k2;omega)]];exact k3)
  obtain⟨H',z1,z2,z3⟩:=ih (k+1) (ps++[((i:Int),(y:Int))]) H2 (by omega) (by simp;omega) f2 q6
  refine⟨H', ?_,z2, ?_⟩
  ·rw[W0C]
   simp only[g1,oS,g3,J0i g4,show((k:Int)<((r.2.length:Nat):Int)) by omega,dY,iT,k1,k3,asI_int,q0j hyn,q1,q2,q3,s1,s2,q5,q0b (show k<=1000000000 by omega),z1]
  ·rw[List.drop_eq_getElem_cons hlt,List.map_cons,hy]
   rw[List.append_assoc]at z3
   exact z3
theorem Y0F(hl:M.lim<=b)(hF: ∀i,F i->i<b)(hn:n<=1000000)(ht:Table n rows)(hc:UC H0 F (uLs bb rows) [c]):
  ∀(e i:Nat) (H:Heap) (ps:List (Int×Int)),i+e=rows.length->ps.length+(prs i (rows.drop i)).length<=1000000->FrB b H0 H->TabO H b (tabD n ps)->
  ∃H',f82_1 M c (.slice b 0 n) (i:Int) H=some (.c (.slice b 0 n),H')/\FrB b H0 H'/\TabO H' b (tabD n (ps++prs i (rows.drop i))):=by
 intro e
 induction e with
 |zero=>
  intro i H ps hi hp f t
  refine⟨H, ?_,f,by rw[dL (by omega)];simpa[prs]using t⟩
  rw[W0B]
  simp only[J1q (j0Y hc f hF),oS,show¬((i:Int)<((rows.length:Nat):Int)) by omega,dF,bF,iF]
 |succ e ih=>
  intro i H ps hi hp f t
  have hlt:i<rows.length:=by omega
  have hg:rows[i]? =some rows[i]:=q0a hlt
  rw[List.drop_eq_getElem_cons hlt,prs]at hp⊢
  rw[List.length_append,List.length_map]at hp
  obtain⟨H1,g1,g2,g3⟩:=Y0E hl hF hn ht hc hg (by omega) rows[i].2.length 0 ps H (by omega) (by omega) f t
  rw[List.drop_zero]at g3
  obtain⟨H',k1,k2,k3⟩:=ih (i+1) H1 _ (by omega) (by rw[List.length_append,List.length_map];omega) g2 g3
  refine⟨H', ?_,k2,by rw[List.append_assoc]at k3;exact k3⟩
  rw[W0B]
  rw[show((0:Nat):Int)=0 from rfl]at g1
  simp only[J1q (j0Y hc f hF),oS,show((i:Int)<((rows.length:Nat):Int)) by omega,dY,iT,g1,k1]
theorem w1N{H:Heap}(hl:M.lim<=H.next)(hF: ∀i,F i->i<H.next)(hn:n<=1000000)(ht:Table n rows)(hc:UC H F (uLs bb rows) [c]):
  ∃H',f82 M c H=some (.c (.slice H.next 0 n),H')/\FrB H.next H H'/\TabO H' H.next (tabD n (prs 0 rows)):=by
 have t0:=TabO.new H n
 rw[<-J0h]at t0
 obtain⟨H',k1,k2,k3⟩:=Y0F (b:=H.next) (n:=n) hl hF hn ht hc rows.length 0 _ [] (by omega) (by rw[List.drop_zero,Z0S];simpa using ht.2.2) ⟨Nat.le_succ _,fun i hi=>q0g hi⟩ t0
 refine⟨H', ?_,k2,by simpa using k3⟩
 rw[Z1o]
 simp only[J1q hc,oS,ht.1,iN]
 rw[if_pos ⟨by omega,by omega⟩]
 exact k1
end
abbrev MH(lim:Nat):Mach:=⟨awExt 8,lim,true⟩
abbrev CallsY(lim:Nat)(y:YCallT):Prop:=CallsOK lim (callOf (run (awExt 8) (progOf 8 prog true) lim)) md y
theorem z0X{lim:Nat}{M:YM}(hM:CallsY lim M.ext){f:FuncId}{us:List U}{r:Rz}{u:U}(h:ycall M f us=some r)(hu:r.toU=some u){H:Heap}{F:Nat->Prop}{vs:List V}(hl:lim<=H.next)(hF: ∀i,F i->i<H.next)(hv:UVs H F us vs):
  ∃v H' F',mcall (MH lim) f vs H=some (v,H')/\FrX none H F H' F'/\UV H' F' u v:=
 Rz.callU (md:=md) (j0X (vext:=awExt 8) (yext:=M.ext) (prog:=progOf 8 prog true) (lim:=lim) k0p hM) h hu hl hF hv
section
variable{H H':Heap}{F F':Nat->Prop}
theorem z0x(h:FrX none H F H' F'):Grow H H':=⟨h.next,fun i hi=>h.keep i hi (fun e=>by cases e)⟩
theorem FrB.fr{b:Nat}{H0:Heap}(h:FrB b H0 H)(g:Grow H H'):FrB b H0 H':=⟨nT h.next g.next,fun i hi=>(g.keep i (nL hi h.next)).trans (h.old i hi)⟩
theorem w1q{u1 u2:U}{v1 v2:V}(h1:UV H F u1 v1)(h2:UV H F u2 v2):UVs H F [u1,u2] [v1,v2]:=⟨v1,[v2],rfl,h1,v2,[],rfl,h2,rfl⟩
theorem W0W{n:Int}:UV H F (uI n) (.c (.int .i64 n)):=⟨rfl,rfl,rfl⟩
theorem k0R{b1 b2:Bool}{w0 w1:List Int}{c0 c1:C}(h0:UC H F (uIs b1 w0) [c0])(h1:UC H F (uIs b2 w1) [c1]):UV H F (.st [uIs b1 w0,uIs b2 w1]) (.agg [c0,c1]):=
 ⟨_,rfl,c0,[c1],rfl,rfl,h0,c1,[],rfl,rfl,h1,rfl⟩
theorem q1v(e:E4):UV H F (uE e) (.agg [.int .i64 e.f, .int .i64 e.t, .int .i64 e.n, .int .i64 e.v]):=
 ⟨_,rfl,_,_,rfl,rfl,⟨rfl,rfl⟩,_,_,rfl,rfl,⟨rfl,rfl⟩,_,_,rfl,rfl,⟨rfl,rfl⟩,_,_,rfl,rfl,⟨rfl,rfl⟩,rfl⟩
theorem z0y{cs r:List C}{o n j:Nat}{x:C}(h:(cs.drop o).take n=r)(hj:r[j]? =some x):cs[o+j]? =some x:=by
 subst h
 rw[List.getElem?_take]at hj
 split at hj
 ·rw[List.getElem?_drop]at hj;exact hj
 ·cases hj
theorem rdE{b:Bool}{es:List E4}{c:C}(h:UC H F (uEs b es) [c]){k:Nat}{e:E4}(hk:es[k]? =some e): ∃i o,C.elem 4 c (k:Int)=some (i,o)/\F i/\H.ld i o=some (.int .i64 e.f)/\H.ld i (o+1)=some (.int .i64 e.t)/\
  H.ld i (o+1+1)=some (.int .i64 e.n)/\H.ld i (o+1+1+1)=some (.int .i64 e.v):=by
 obtain⟨i,o,z,cs,e1,e2,e3,e4,e5⟩:=h.elem (k:=k) (u:=uE e) (by simp[hk])
 rw[show(uE e).size=4 from rfl]at e1 e5
 obtain⟨c0,_,k0,_,q0,c1,_,rfl,_,q1,c2,_,rfl,_,q2,c3,_,rfl,_,q3,rfl⟩:=e5
 have t0:c0= .int .i64 e.f:=by have:=q0.2;simpa using this
 have t1:c1= .int .i64 e.t:=by have:=q1.2;simpa using this
 have t2:c2= .int .i64 e.n:=by have:=q2.2;simpa using this
 have t3:c3= .int .i64 e.v:=by have:=q3.2;simpa using this
 subst t0 t1 t2 t3
 exact⟨i,o,e1,e2,ldX e3 (z0y (j:=0) k0 rfl),ldX e3 (z0y (j:=1) k0 rfl),ldX e3 (z0y (j:=2) k0 rfl),ldX e3 (z0y (j:=3) k0 rfl)⟩
theorem Z1M{b:Bool}{l:List E4}{c:C}(h:UC H F (uEs b l) [c]):C.len c=some l.length:=by have:=UC.lenC h;simpa using this
end
def toP(w0:List Int)(n p:Nat):Nat:=if p+1=n then w0.length else p+1
def psE(n t p:Nat)(e:E4):Int×Int:=(e.t*n+t,e.f*n+p)
def psP(es:List E4)(w0 w1:List Int)(n p:Nat):List (Int×Int):=(es.filter fun e=>rdI e (letr w0 w1 p)).map (psE n (toP w0 n p) p)
def psTo(es:List E4)(w0 w1:List Int)(n k:Nat):List (Int×Int):=(List.range k).flatMap (psP es w0 w1 n)
theorem Q1G{e:E4}{es:List E4}{w0 w1:List Int}{n p:Nat}(h:rdI e (letr w0 w1 p)=true):psP (e::es) w0 w1 n p=psE n (toP w0 n p) p e::psP es w0 w1 n p:=by simp[psP,h]
theorem Z1N{e:E4}{es:List E4}{w0 w1:List Int}{n p:Nat}(h:rdI e (letr w0 w1 p)=false):psP (e::es) w0 w1 n p=psP es w0 w1 n p:=by simp[psP,h]
theorem Q1H(es:List E4)(w0 w1:List Int)(n p:Nat):(psP es w0 w1 n p).length<=es.length:=by
 rw[psP,List.length_map];exact List.length_filter_le _ _
theorem Z0e(es:List E4)(w0 w1:List Int)(n k:Nat):psTo es w0 w1 n (k+1)=psTo es w0 w1 n k++psP es w0 w1 n k:=by
 simp[psTo,List.range_succ]
theorem J0k(es:List E4)(w0 w1:List Int)(n:Nat): ∀k,(psTo es w0 w1 n k).length<=k*es.length
 | 0=>by simp[psTo]
 |k+1=>by
  rw[Z0e,List.length_append,Nat.succ_mul]
  have:=J0k es w0 w1 n k
  have:=Q1H es w0 w1 n k
  omega
theorem z0i{a s n p:Nat}(hs:s<a)(hp:p<n):s*n+p<a*n:=by
 have:(s+1)*n<=a*n:=Nat.mul_le_mul_right _ hs
 rw[Nat.succ_mul]at this
 omega
section
variable{lim:Nat}{M:YM}(hM:CallsY lim M.ext){H0:Heap}{F:Nat->Prop}{b a:Nat}{b1 b2 b3 b4 b5:Bool}{l:List Int}{es:List E4}{xs:List (Bool×List Int)}{w0 w1:List Int}{c1 c2 c3 d0 d1:C}
structure AW (lim:Nat) (H0:Heap) (F:Nat->Prop) (b a:Nat) (l:List Int) (es:List E4) (xs:List (Bool×List Int)) (w0 w1:List Int) (b1 b2 b3 b4 b5:Bool) (c1 c2 c3 d0 d1:C):Prop where
 hl:lim<=b
 hF: ∀i,F i->i<b
 ha:a<=300
 he:es.length<=6000
 hx:xs.length<=8
 ok:es.all (eOK (a:Int))=true
 wp:0<w1.length
 wl:(w0++w1).all ltr=true
 wn:w0.length+w1.length<=60
 u1:UC H0 F (uIs b1 l) [c1]
 u2:UC H0 F (uEs b2 es) [c2]
 u3:UC H0 F (uLs b3 xs) [c3]
 v0:UC H0 F (uIs b4 w0) [d0]
 v1:UC H0 F (uIs b5 w1) [d1]
 hls:l.length<=1000000/\ ∀s∈l,0<=s/\s<(a:Int)
 hxs: ∀x∈xs,x.2.length<=1000000/\ ∀s∈x.2,0<=s/\s<(a:Int)
variable(A:AW lim H0 F b a l es xs w0 w1 b1 b2 b3 b4 b5 c1 c2 c3 d0 d1)
theorem k0q{a:Nat}{es:List E4}(h:es.all (eOK (a:Int))=true){k:Nat}{e:E4}(hk:es[k]? =some e):(∃f:Nat,e.f=f/\f<a)/\(∃t:Nat,e.t=t/\t<a)/\btw e.n 0 4095=true/\btw e.v 0 4095=true:=by
 have h1:=List.all_eq_true.1 h e (List.mem_of_getElem? hk)
 simp only[eOK,bA]at h1
 obtain⟨⟨⟨g1,g2⟩,g3⟩,g4⟩:=h1
 simp only[btw,dE]at g1 g2
 refine⟨?_, ?_,g3,g4⟩
 ·obtain⟨f,hf⟩:=iZ g1.1;exact⟨f,hf,by omega⟩
 ·obtain⟨f,hf⟩:=iZ g2.1;exact⟨f,hf,by omega⟩
include hM A
theorem q1w{n p:Nat}(hn:n=w0.length+w1.length)(hp:p<n):
  ∀(d i:Nat) (H:Heap) (ps:List (Int×Int)),i+d=es.length->ps.length+d<=1000000->FrB b H0 H->TabO H b (tabD (a*n) ps)->
  ∃H',f16_3 (MH lim) (a:Int) c1 c2 c3 d0 d1 (n:Int) (.slice b 0 (a*n)) (p:Int) (toP w0 n p:Int) (i:Int) H=f16_1 (MH lim) (a:Int) c1 c2 c3 d0 d1 (n:Int) (.slice b 0 (a*n)) ((p+1:Nat):Int) H'/\
   FrB b H0 H'/\TabO H' b (tabD (a*n) (ps++psP (es.drop i) w0 w1 n p)):=by
 intro d
 induction d with
 |zero=>
  intro i H ps hi hps f t
  refine⟨H, ?_,f,by rw[dL (by omega)];simpa[psP]using t⟩
  rw[Q0V]
  have:=A.wn
  simp only[Z1M (j0Y A.u2 f A.hF),oS,show¬((i:Int)<((es.length:Nat):Int)) by omega,dF,bF,iF,q0b (show p<=1000000000 by omega)]
 |succ d ih=>
  intro i H ps hi hps f t
  have hlt:i<es.length:=by omega
  have hg:es[i]? =some es[i]:=q0a hlt
  have ha:=A.ha;have hwn:=A.wn;have he:=A.he
  obtain⟨⟨s,hs1,hs2⟩,⟨t',ht1,ht2⟩,hb1,hb2⟩:=k0q A.ok hg
  obtain⟨i1,o1,g1,g2,g3,g4,g5,g6⟩:=rdE (j0Y A.u2 f A.hF) hg
  have hF: ∀i,F i->i<H.next:=fun i hi=>nL (A.hF i hi) f.next
  obtain⟨v,H1,F1,k1,k2,k3⟩:=z0X hM (f:=42) (us:=[.st [uIs b4 w0,uIs b5 w1],uI (p:Int)]) (vs:=[.agg [d0,d1], .c (.int .i64 (p:Int))]) (Y0N (M:=M) A.wp (by omega) (by omega)) rfl (nT A.hl f.next) hF (w1q (k0R (j0Y A.v0 f A.hF) (j0Y A.v1 f A.hF)) W0W)
  have:=k3.int
  subst this
  have f1:=f.fr (z0x k2)
  have t1:=t.grow (z0x k2)
  have hlet:btw (letr w0 w1 p) 0 4095=true:=by
   have hm:letr w0 w1 p∈w0++w1:=by
    rw[j0Z (by omega)]
    unfold at0
    rw[lG,List.getElem?_eq_getElem (by simp;omega)]
    exact lM _
   exact List.all_eq_true.1 A.wl _ hm
  obtain⟨v2,H2,F2,m1,m2,m3⟩:=z0X hM (f:=43) (us:=[uE es[i],uI (letr w0 w1 p)]) (vs:=[.agg [.int .i64 es[i].f, .int .i64 es[i].t, .int .i64 es[i].n, .int .i64 es[i].v], .c (.int .i64 (letr w0 w1 p))]) (w1l (M:=M) hb1 hb2 hlet) rfl (nT A.hl f1.next) k2.lt (w1q (q1v _) W0W)
  have:=m3.bool
  subst this
  have f2:=f1.fr (z0x m2)
  have t2:=t1.grow (z0x m2)
  have q1:f42 (MH lim) d0 d1 (p:Int) H=some (.c (.int .i64 (letr w0 w1 p)),H1):=k1
  have q2:f43 (MH lim) es[i].f es[i].t es[i].n es[i].v (letr w0 w1 p) H1=some (.c (.bool (rdI es[i] (letr w0 w1 p))),H2):=m1
  have hbn:s*n<=300*60/\t'*n<=300*60:=⟨Nat.mul_le_mul (by omega) (by omega),Nat.mul_le_mul (by omega) (by omega)⟩
  have htp:toP w0 n p<=60:=by unfold toP;split<;>omega
  have e1:IntKind.wrap .i64 (es[i].f*(n:Int))=((s*n:Nat):Int):=by rw[hs1,<-Int.natCast_mul,q0e (by omega) (by omega)]
  have e2:IntKind.wrap .i64 (((s*n:Nat):Int)+(p:Int))=((s*n+p:Nat):Int):=by rw[q0e (by omega) (by omega)];omega
  have e3:IntKind.wrap .i64 (es[i].t*(n:Int))=((t'*n:Nat):Int):=by rw[ht1,<-Int.natCast_mul,q0e (by omega) (by omega)]
  have e4:IntKind.wrap .i64 (((t'*n:Nat):Int)+(toP w0 n p:Int))=((t'*n+toP w0 n p:Nat):Int):=by rw[q0e (by omega) (by omega)];omega
  have hnode:=z0i hs2 hp
  have hps1:psE n (toP w0 n p) p es[i]=(((t'*n+toP w0 n p:Nat):Int),((s*n+p:Nat):Int)):=by unfold psE;rw[hs1,ht1];simp
  rw[List.drop_eq_getElem_cons hlt]
  by_cases hr:rdI es[i] (letr w0 w1 p)=true
  ·have hrl:=j0G ps (s*n+p)
   obtain⟨x,z1,z2,c',H3,z3,z4,H4,z5,z6,z7,z8⟩:=t2.push (lim:=lim) A.hl (j0F hnode) ((t'*n+toP w0 n p:Nat):Int) (by omega)
   rw[<-w0J hnode]at z6
   obtain⟨H',y1,y2,y3⟩:=ih (i+1) H4 (ps++[(((t'*n+toP w0 n p:Nat):Int),((s*n+p:Nat):Int))]) (by omega) (by simp;omega) ⟨nT f2.next z8,fun j hj=>by rw[z7 j hj];exact f2.old j hj⟩ z6
   refine⟨H', ?_,y2, ?_⟩
   ·rw[Q0V]
    simp only[Z1M (j0Y A.u2 f A.hF),oS,show((i:Int)<((es.length:Nat):Int)) by omega,dY,iT,g1,g3,g4,g5,g6,asI_int,q1,asC_c,q2,asB_bool,hr,e1,e2,e3,e4,q0j hnode,z1,z2,z3,z5,W0v,q0b (show i<=1000000000 by omega),y1]
   ·rw[Q1G hr,hps1]
    rw[List.append_assoc]at y3
    exact y3
  ·simp only[Bool.not_eq_true]at hr
   obtain⟨H',y1,y2,y3⟩:=ih (i+1) H2 ps (by omega) (by omega) f2 t2
   refine⟨H', ?_,y2, ?_⟩
   ·rw[Q0V]
    simp only[Z1M (j0Y A.u2 f A.hF),oS,show((i:Int)<((es.length:Nat):Int)) by omega,dY,iT,g1,g3,g4,g5,g6,asI_int,q1,asC_c,q2,asB_bool,hr,bF,iF,W0v,q0b (show i<=1000000000 by omega),y1]
   ·rw[Z1N hr];exact y3
theorem q1x{n:Nat}(hn:n=w0.length+w1.length):
  ∀(d p:Nat) (H:Heap),p+d=n->FrB b H0 H->TabO H b (tabD (a*n) (psTo es w0 w1 n p))->
  ∃H',f16_1 (MH lim) (a:Int) c1 c2 c3 d0 d1 (n:Int) (.slice b 0 (a*n)) (p:Int) H=f16_5 (MH lim) (a:Int) c1 c2 c3 (n:Int) (.slice b 0 (a*n)) .nilSlice 0 H'/\
   FrB b H0 H'/\TabO H' b (tabD (a*n) (psTo es w0 w1 n n)):=by
 have ha:=A.ha;have hwn:=A.wn;have he:=A.he;have hw1:=A.wp
 intro d
 induction d with
 |zero=>
  intro p H hp f t
  have:p=n:=by omega
  subst this
  refine⟨H, ?_,f,t⟩
  rw[W0r]
  simp only[Int.lt_irrefl,dF,bF,iF]
 |succ d ih=>
  intro p H hp f t
  have hlen:=J0k es w0 w1 n p
  have hb:p*es.length<=60*6000:=Nat.mul_le_mul (by omega) he
  obtain⟨H1,g1,g2,g3⟩:=q1w hM A hn (show p<n by omega) es.length 0 H (psTo es w0 w1 n p) (by omega) (by omega) f t
  rw[List.drop_zero,<-Z0e]at g3
  obtain⟨H',k1,k2,k3⟩:=ih (p+1) H1 (by omega) g2 g3
  refine⟨H', ?_,k2,k3⟩
  rw[W0r]
  rw[show((0:Nat):Int)=0 from rfl]at g1
  simp only[show((p:Int)<(n:Int)) by omega,dY,iT,q0b (show p<=1000000000 by omega),J0i (j0Y A.v0 f A.hF),oS,z1B]
  by_cases e:p+1=n
  ·rw[if_pos (by simp;omega)]
   rw[show toP w0 n p=w0.length by simp[toP,e]]at g1
   rw[g1,k1]
  ·rw[if_neg (by simp;omega)]
   rw[show toP w0 n p=p+1 by simp[toP,e]]at g1
   rw[g1,k1]
end
theorem w0E(H:Heap)(x:C):Heap.cellsOf (H.alloc (.cells 1 [x])) 1 (.slice H.next 0 1)=some [x]:=by
 simp[Heap.cellsOf,Heap.ldN,alloc_new]
theorem J0V{H:Heap}{F:Nat->Prop}: ∀l:List Bool,EsR H F (uBs l) 1 (l.map C.bool)
 | []=>rfl
 |b::l=>⟨[.bool b],l.map C.bool,rfl,rfl,⟨rfl,rfl⟩,J0V l⟩
theorem z1E{H:Heap}{F:Nat->Prop}{j:Nat}{l:List Bool}(hF:F j)(hg:H.get j=some (.cells 1 (l.map C.bool))):UC H F (.sl true (uBs l)) [.slice j 0 l.length]:=by
 refine .inr ⟨rfl,j,0,_,1,by simp,hF,hg,by simp, ?_⟩
 rw[List.drop_zero,List.take_of_length_le (by simp)]
 exact J0V l
structure OneN (Ha:Heap) (bs:List Bool) (H:Heap):Prop where
 lt:Ha.next<H.next
 old: ∀i,i<Ha.next->H.get i=Ha.get i
 new:H.get Ha.next=some (.cells 1 (bs.map C.bool))
theorem OneN.fr{Ha H H0:Heap}{bs:List Bool}{b:Nat}(h:OneN Ha bs H)(f:FrB b H0 Ha):FrB b H0 H:=f.fr ⟨Nat.le_of_lt h.lt,h.old⟩
theorem OneN.set{Ha H:Heap}{bs:List Bool}{lim k:Nat}(h:OneN Ha bs H)(hl:lim<=Ha.next)(hk:k<bs.length): ∃H',Heap.st lim H Ha.next k [.bool true]=some H'/\OneN Ha (bs.set k true) H':=by
 refine⟨_,J0g h.new hl (by simpa using hk),h.lt,fun i hi=> ?_, ?_⟩
 ·rw[q0d (by omega)];exact h.old i hi
 ·rw[put_same,List.map_set]
section
variable{lim:Nat}{M:YM}(hM:CallsY lim M.ext){H0 Ha:Heap}{F:Nat->Prop}{b a:Nat}{b1 b2 b3 b4 b5:Bool}{l:List Int}{es:List E4}{xs:List (Bool×List Int)}{w0 w1:List Int}{c1 c2 c3 d0 d1:C}
variable(A:AW lim H0 F b a l es xs w0 w1 b1 b2 b3 b4 b5 c1 c2 c3 d0 d1){n:Nat}(hn:n=w0.length+w1.length)(fa:FrB b H0 Ha)
include A hn fa
theorem Y0P{x:Bool×List Int}{k i s:Nat}{tab sets:C}(hk:xs[k]? =some x)(hi:x.2[i]? =some (s:Int))(hs:s<a)(hil:i<=1000000):
  ∀(d p:Nat) (bs:List Bool) (H:Heap),p+d=n->bs.length=a*n->OneN Ha bs H->
  ∃H' bs',f16_7 (MH lim) (a:Int) c1 c2 c3 (n:Int) tab sets (k:Int) (.slice Ha.next 0 (a*n)) (i:Int) (p:Int) H=f16_6 (MH lim) (a:Int) c1 c2 c3 (n:Int) tab sets (k:Int) (.slice Ha.next 0 (a*n)) ((i+1:Nat):Int) H'/\
   OneN Ha bs' H'/\bs'.length=a*n/\ ∀j,inB bs' j↔inB bs j\/ ∃q,p<=q/\q<n/\j=s*n+q:=by
 have ha:=A.ha;have hwn:=A.wn
 intro d
 induction d with
 |zero=>
  intro p bs H hp hbs ho
  refine⟨H,bs, ?_,ho,hbs,fun j=>⟨.inl,fun h=>h.elim id fun⟨q,q1,q2,_⟩=>by omega⟩⟩
  rw[W0w]
  simp only[show¬((p:Int)<(n:Int)) by omega,dF,bF,iF,q0b (show i<=1000000000 by omega)]
 |succ d ih=>
  intro p bs H hp hbs ho
  have hpn:p<n:=by omega
  obtain⟨i1,o1,cc,g1,g2,g3,g4⟩:=rdL (j0Y A.u3 (ho.fr fa) A.hF) hk
  obtain⟨i2,o2,k1,k2,k3⟩:=rdN g4 hi
  have hnode:=z0i hs hpn
  have hbn:s*n<=300*60:=Nat.mul_le_mul (by omega) (by omega)
  have e1:IntKind.wrap .i64 ((s:Int)*(n:Int))=((s*n:Nat):Int):=by rw[<-Int.natCast_mul,q0e (by omega) (by omega)]
  have e2:IntKind.wrap .i64 (((s*n:Nat):Int)+(p:Int))=((s*n+p:Nat):Int):=by rw[q0e (by omega) (by omega)];omega
  obtain⟨H2,q1,q2⟩:=ho.set (lim:=lim) (k:=s*n+p) (nT A.hl fa.next) (by omega)
  obtain⟨H',bs',y1,y2,y3,y4⟩:=ih (p+1) _ H2 (by omega) (by simp[hbs]) q2
  refine⟨H',bs', ?_,y2,y3,fun j=> ?_⟩
  ·rw[W0w]
   simp only[show((p:Int)<(n:Int)) by omega,dY,iT,g1,oS,g3,k1,k3,asI_int,e1,e2,q0j hnode,q1,q0b (show p<=1000000000 by omega),y1]
  ·rw[y4 j,q0I (by omega)]
   constructor
   ·rintro((h |h) |⟨q,h1,h2,h3⟩)
    ·exact .inr ⟨p,nR _,hpn,h⟩
    ·exact .inl h
    ·exact .inr ⟨q,by omega,h2,h3⟩
   ·rintro(h |⟨q,h1,h2,h3⟩)
    ·exact .inl (.inr h)
    ·by_cases hq:q=p
     ·subst hq;exact .inl (.inl h3)
     ·exact .inr ⟨q,by omega,h2,h3⟩
theorem Y0Q{x:Bool×List Int}{k:Nat}{tab sets:C}(hk:xs[k]? =some x):
  ∀(d i:Nat) (bs:List Bool) (H:Heap),i+d=x.2.length->bs.length=a*n->OneN Ha bs H->
  ∃H' bs',f16_6 (MH lim) (a:Int) c1 c2 c3 (n:Int) tab sets (k:Int) (.slice Ha.next 0 (a*n)) (i:Int) H=f16_6 (MH lim) (a:Int) c1 c2 c3 (n:Int) tab sets (k:Int) (.slice Ha.next 0 (a*n)) (x.2.length:Int) H'/\
   OneN Ha bs' H'/\bs'.length=a*n/\ ∀j,inB bs' j↔inB bs j\/ ∃s:Nat,(s:Int)∈x.2.drop i/\ ∃q,q<n/\j=s*n+q:=by
 have hx:=A.hxs x (List.mem_of_getElem? hk)
 intro d
 induction d with
 |zero=>
  intro i bs H hi hbs ho
  have:i=x.2.length:=by omega
  subst this
  exact⟨H,bs,rfl,ho,hbs,fun j=>⟨.inl,fun h=>h.elim id fun⟨s,hs,_⟩=>by simp at hs⟩⟩
 |succ d ih=>
  intro i bs H hi hbs ho
  have hlt:i<x.2.length:=by omega
  obtain⟨y0,y1⟩:=hx.2 x.2[i] (lM hlt)
  obtain⟨s,hs⟩:=iZ y0
  have hget:x.2[i]? =some (s:Int):=by rw[q0a hlt,hs]
  rw[hs]at y1
  obtain⟨H1,bs1,z1,z2,z3,z4⟩:=Y0P A hn fa (tab:=tab) (sets:=sets) hk hget (by omega) (by omega) n 0 bs H (by omega) hbs ho
  obtain⟨H',bs',k1,k2,k3,k4⟩:=ih (i+1) bs1 H1 (by omega) z3 z2
  obtain⟨i1,o1,cc,g1,g2,g3,g4⟩:=rdL (j0Y A.u3 (ho.fr fa) A.hF) hk
  refine⟨H',bs', ?_,k2,k3,fun j=> ?_⟩
  ·rw[W0t]
   rw[show((0:Nat):Int)=0 from rfl]at z1
   simp only[g1,oS,g3,J0i g4,show((i:Int)<((x.2.length:Nat):Int)) by omega,dY,iT,z1,k1]
  ·rw[k4 j,z4 j,List.drop_eq_getElem_cons hlt]
   constructor
   ·rintro((h |⟨q,_,h2,h3⟩) |⟨s',h1,h2⟩)
    ·exact .inl h
    ·exact .inr ⟨s,by rw[hs];simp,q,h2,h3⟩
    ·exact .inr ⟨s',by simp only[mC];exact .inr h1,h2⟩
   ·rintro(h |⟨s',h1,q,h2,h3⟩)
    ·exact .inl (.inl h)
    ·rcases mC.1 h1 with h |h
     ·have:s'=s:=by omega
      subst this
      exact .inl (.inr ⟨q,Nat.zero_le _,h2,h3⟩)
     ·exact .inr ⟨s',h,q,h2,h3⟩
omit fa
def Marks(n:Nat)(x:Bool×List Int)(bs:List Bool):Prop:= ∀j,inB bs j↔ ∃s:Nat,(s:Int)∈x.2/\ ∃q,q<n/\j=s*n+q
def setU(l:List Bool):U:= .sl true (uBs l)
theorem Y0R{Hm:Heap}(fm:FrB b H0 Hm){tab:C}:
  ∀(d k:Nat) (H:Heap) (G:Nat->Prop) (ls:List (List Bool)) (c:C),k+d=xs.length->Grow Hm H->(∀i,F i->G i)->(∀i,G i->i<H.next)->(∀i,G i->F i\/Hm.next<=i)->OutR Hm.next H G 1 (ls.map setU) c->ls.length=k->
   (∀l'∈ls,l'.length=a*n)->(∀(k':Nat) (l':List Bool) (x:Bool×List Int),ls[k']? =some l'->xs[k']? =some x->Marks n x l')->
  ∃(H':Heap) (G':Nat->Prop) (ls':List (List Bool)) (c':C),f16_5 (MH lim) (a:Int) c1 c2 c3 (n:Int) tab c (k:Int) H=f16_5 (MH lim) (a:Int) c1 c2 c3 (n:Int) tab c' (xs.length:Int) H'/\
   Grow Hm H'/\(∀i,F i->G' i)/\(∀i,G' i->i<H'.next)/\(∀i,G' i->F i\/Hm.next<=i)/\OutR Hm.next H' G' 1 (ls'.map setU) c'/\ls'.length=xs.length/\(∀l':List Bool,l'∈ls'->l'.length=a*n)/\(∀(k':Nat) (l':List Bool) (x:Bool×List Int),ls'[k']? =some l'->xs[k']? =some x->Marks n x l'):=by
 have ha:=A.ha;have hwn:=A.wn;have hx8:=A.hx
 intro d
 induction d with
 |zero=>
  intro k H G ls c hk g h1 h2 h3 h4 h5 h6 h7
  have:k=xs.length:=by omega
  subst this
  exact⟨H,G,ls,c,rfl,g,h1,h2,h3,h4,h5,h6,h7⟩
 |succ d ih=>
  intro k H G ls c hk g h1 h2 h3 h4 h5 h6 h7
  have hlt:k<xs.length:=by omega
  have hg:xs[k]? =some xs[k]:=q0a hlt
  have fa:FrB b H0 H:=fm.fr g
  have hN:a*n<=300*60:=Nat.mul_le_mul ha (by omega)
  have o0:OneN H (List.replicate (a*n) false) (H.alloc (.cells 1 (List.replicate (a*n) [C.bool false]).flatten)):=by
   refine⟨Nat.lt_succ_self _,fun i hi=>q0g hi, ?_⟩
   rw[alloc_new,show [C.bool false]=List.replicate 1 (C.bool false)from rfl,List.flatten_replicate_replicate,Nat.mul_one,List.map_replicate]
  obtain⟨H1,bs,z1,z2,z3,z4⟩:=Y0Q A hn fa (tab:=tab) (sets:=c) hg xs[k].2.length 0 _ _ (by omega) (by simp) o0
  let G1:Nat->Prop:=fun i=>G i\/i=H.next
  have f2:FrX none H G (H1.alloc (.cells 1 [.slice H.next 0 (a*n)])) G1:=by
   refine⟨?_,fun i hi _=> ?_,fun i hi=> .inl hi,fun i hi=>hi.imp id fun e=>Nat.le_of_eq e.symm,fun i hi=> ?_⟩
   ·have:=z2.lt;simp;omega
   ·rw[q0g (by have:=z2.lt;omega)];exact z2.old i hi
   ·have:=z2.lt
    rcases hi with hi |hi
    ·have:=h2 i hi;simp;omega
    ·simp;omega
  have o2:=h4.fr f2 (fun i e=>by cases e) h2
  have u2:UC (H1.alloc (.cells 1 [.slice H.next 0 (a*n)])) G1 (setU bs) [.slice H.next 0 (a*n)]:=by
   rw[<-z3]
   exact z1E (.inr rfl) (by rw[q0g z2.lt];exact z2.new)
  obtain⟨c',H2,y1,y2,y3,y4,y5⟩:=o2.app (lim:=lim) (nT A.hl fm.next) f2.lt (nT g.next f2.next) u2 rfl (by rw[List.length_map,h5];omega)
  have hmk:Marks n xs[k] bs:=fun j=>by
   rw[z4 j,List.drop_zero]
   refine⟨fun h=>h.elim (fun h=> ?_) id, .inr⟩
   rw[inB,List.getElem?_replicate]at h
   split at h<;>cases h
  obtain⟨H',G',ls',c'',q1,q⟩:=ih (k+1) H2 G1 (ls++[bs]) c' (by omega) ⟨nT g.next (nT f2.next y3),fun i hi=>by
    rw[y5 i hi,f2.keep i (nL hi g.next) (fun e=>by cases e)];exact g.keep i hi⟩ (fun i hi=> .inl (h1 i hi)) (fun i hi=>nL (f2.lt i hi) y3)
   (fun i hi=>hi.elim (h3 i) fun e=> .inr (by rw[e];exact g.next)) (by rw[List.map_append];exact y2) (by simp[h5]) (fun l' hl'=>by
    rcases mA.1 hl' with h |h
    ·exact h6 l' h
    ·rw[List.mem_singleton.1 h];exact z3) (fun k' l' x e1 e2=>by
    by_cases hk':k'<ls.length
    ·rw[List.getElem?_append_left hk']at e1;exact h7 k' l' x e1 e2
    ·have hkk:k'=ls.length:=by have:=(gE.1 e1).1;simp at this;omega
     subst hkk
     rw[List.getElem?_append_right (nR _),Nat.sub_self]at e1
     simp at e1
     subst e1
     rw[h5,hg]at e2
     cases e2
     exact hmk)
  refine⟨H',G',ls',c'', ?_,q⟩
  have e1:IntKind.wrap .i64 ((a:Int)*(n:Int))=((a*n:Nat):Int):=by rw[<-Int.natCast_mul,q0e (by omega) (by omega)]
  rw[show((0:Nat):Int)=0 from rfl]at z1
  rw[W0s]
  simp only[J1q (j0Y A.u3 fa A.hF),oS,show((k:Int)<((xs.length:Nat):Int)) by omega,dY,iT,e1,iN]
  rw[if_pos ⟨by omega,by omega⟩,z1,W0t]
  obtain⟨i1,o1,cc,g1,g2,g3,g4⟩:=rdL (j0Y A.u3 (z2.fr fa) A.hF) hg
  simp only[g1,oS,g3,J0i g4,Int.lt_irrefl,dF,bF,iF,w0E,y1,q0b (show k<=1000000000 by omega),q1]
end
theorem Q1q{M:YM}{N:Nat}{rows:List (Bool×List Int)}(hn:N<=1000000)(hT:Table N rows)(hrev:HasRev M){b b2:Bool}{ls:List (List Bool)}(hs: ∀l∈ls,l.length=N)(hm:ls.length<=1000000):
  ∃P,y44 M (uLs b rows) (.sl b2 (ls.map setU))=some (.sl ⟨true,1,uBs P⟩)/\P.length=N/\ ∀u,inB P u↔Inf (nxT rows) ls.length (fun k=>inB (ls.getD k [])) u:=by
 cases ls with
 |nil=>
  obtain⟨rows',P,h1,h2,h3⟩:=K1K (M:=M) hn hT hrev (b:=b) (b2:=b2)
  exact⟨P,h2,h3.len,fun u=>h3.inf0 hT.1 h1 u _⟩
 |cons x ls=>
  have hm1:((x::ls).map fun l=>(true,l)).map (·.2)=x::ls:=by simp[Function.comp_def]
  obtain⟨rows',P,h1,h2,h3⟩:=K1J (M:=M) hn hT hrev (b:=b) (b2:=b2) (ss:=(x::ls).map fun l=>(true,l)) (fun y hy=>by
   obtain⟨l,hl,rfl⟩:=List.mem_map.1 hy
   exact hs l hl) (by simpa using hm) (by simp)
  rw[hm1]at h3
  refine⟨P, ?_,h3.len,fun u=>h3.inf hT.1 h1 (by simp) u⟩
  rw[<-h2]
  unfold uSs
  rw[List.map_map]
  rfl
theorem z1V{k m:Nat}(hm:0<m):(k+1) % m=if k % m+1=m then 0 else k % m+1:=by
 have h:=Nat.div_add_mod k m
 have hr:=Nat.mod_lt k hm
 rw[show k+1=m*(k / m)+(k % m+1) by omega,Nat.mul_add_mod]
 split
 ·rename_i e;rw[e,Nat.mod_self]
 ·exact Nat.mod_eq_of_lt (by omega)
def posN(w0:List Int)(n:Nat):Nat->Nat
 | 0=>0
 |i+1=>toP w0 n (posN w0 n i)
theorem j0y{w0 w1:List Int}{n:Nat}(hn:n=w0.length+w1.length)(h1:0<w1.length): ∀i,posN w0 n i<n/\if i<w0.length then posN w0 n i=i else w0.length<=posN w0 n i/\posN w0 n i - w0.length=(i - w0.length) % w1.length
 | 0=>by
  refine⟨by simp[posN];omega, ?_⟩
  split
  ·rfl
  ·rename_i h
   have h0:w0.length=0:=by omega
   simp[posN,h0]
 |i+1=>by
  obtain⟨g1,g2⟩:=j0y hn h1 i
  simp only[posN,toP]
  by_cases hi:i<w0.length
  ·rw[if_pos hi]at g2
   rw[g2]at g1⊢
   by_cases hi1:i+1<w0.length
   ·rw[if_neg (by omega),if_pos hi1]
    exact⟨by omega,rfl⟩
   ·rw[if_neg (by omega),if_neg hi1]
    refine⟨by omega,by omega, ?_⟩
    rw[show i+1 - w0.length=0 by omega];simp
  ·rw[if_neg hi]at g2
   have hm:=z1V (k:=i - w0.length) h1
   rw[show i - w0.length+1=i+1 - w0.length by omega]at hm
   have hr:=Nat.mod_lt (i - w0.length) h1
   by_cases e:posN w0 n i+1=n
   ·rw[if_pos e,if_neg (by omega)]
    rw[if_pos (by omega)]at hm
    exact⟨by omega,nR _,by omega⟩
   ·rw[if_neg e,if_neg (by omega)]
    rw[if_neg (by omega)]at hm
    exact⟨by omega,by omega,by omega⟩
theorem w0p{w0 w1:List Int}{n:Nat}(hn:n=w0.length+w1.length)(h1:0<w1.length)(i:Nat):letr w0 w1 (posN w0 n i)=letr w0 w1 i:=by
 obtain⟨g1,g2⟩:=j0y hn h1 i
 by_cases hi:i<w0.length
 ·rw[if_pos hi]at g2;rw[g2]
 ·rw[if_neg hi]at g2
  unfold letr
  rw[if_neg (by omega),if_neg hi,g2.2,Nat.mod_mod]
def auL(l:List Int)(es:List E4)(xs:List (Bool×List Int)):Au:=
 ⟨fun s=>(s:Int)∈l,fun s c t=> ∃e∈es,e.f=(s:Int)/\e.t=(t:Int)/\rdI e (c:Int)=true,xs.length,fun k s=>(s:Int)∈(xs.getD k (false,[])).2⟩
def wrd(w0 w1:List Int)(i:Nat):Nat:=(letr w0 w1 i).toNat
theorem j0c{n s p:Nat}(hp:p<n):(s*n+p) / n=s/\(s*n+p) % n=p:=by
 have h0:0<n:=by omega
 rw[Nat.mul_comm s n,Nat.mul_add_div h0,Nat.mul_add_mod,Nat.div_eq_of_lt hp,Nat.mod_eq_of_lt hp]
 exact⟨rfl,rfl⟩
theorem K0c(ps:List (Int×Int))(n:Nat):(ps.filter fun p=>decide (0<=p.2/\p.2<((n+1:Nat):Int))).length=(ps.filter fun p=>decide (0<=p.2/\p.2<(n:Int))).length+(ps.filter fun p=>decide (p.2=(n:Int))).length:=by
 induction ps with
 |nil=>rfl
 |cons p ps ih=>
  simp only[List.filter_cons]
  by_cases h1:0<=p.2/\p.2<(n:Int)
  ·have h2:0<=p.2/\p.2<((n+1:Nat):Int):=by omega
   have h3: ¬p.2=(n:Int):=by omega
   simp only[h1,h2,h3,and_self,dY,dF,iT,bF,iF,List.length_cons];omega
  ·by_cases h3:p.2=(n:Int)
   ·have h2:0<=p.2/\p.2<((n+1:Nat):Int):=by omega
    rw[if_pos (by simpa using h2),if_neg (by simpa using h1),if_pos (by simpa using h3)]
    simp only[List.length_cons];omega
   ·have h2: ¬(0<=p.2/\p.2<((n+1:Nat):Int)):=by omega
    rw[if_neg (by simpa using h2),if_neg (by simpa using h1),if_neg (by simpa using h3)]
    exact ih
theorem q1f(ps:List (Int×Int)): ∀n:Nat,((tabU (tabD n ps)).map fun r=>r.2.length).sum=(ps.filter fun p=>decide (0<=p.2/\p.2<(n:Int))).length
 | 0=>by
  have:ps.filter (fun p=>decide (0<=p.2/\p.2<((0:Nat):Int)))=[]:=List.filter_eq_nil_iff.2 fun p _=>by simp
  rw[this];rfl
 |n+1=>by
  have e:tabD (n+1) ps=tabD n ps++[(ps.filter fun p=>decide (p.2=(n:Int))).map (·.1)]:=by simp[tabD,List.range_succ]
  rw[e,tabU,List.map_append,List.map_append,List.sum_append,K0c]
  have:=q1f ps n
  rw[tabU]at this
  rw[this]
  simp
theorem w0I{n:Nat}{ps:List (Int×Int)}(h1: ∀p∈ps,0<=p.1/\p.1<(n:Int))(h2:ps.length<=1000000):Table n (tabU (tabD n ps)):=by
 refine⟨by simp[tabU,j0d],fun r hr y hy=> ?_, ?_⟩
 ·obtain⟨l,hl,rfl⟩:=List.mem_map.1 hr
  obtain⟨j,_,rfl⟩:=List.mem_map.1 hl
  obtain⟨p,hp,rfl⟩:=List.mem_map.1 hy
  exact h1 p (List.mem_filter.1 hp).1
 ·rw[q1f]
  exact nT (List.length_filter_le _ _) h2
theorem w1j{n:Nat}{ps:List (Int×Int)}{u v:Nat}:nxT (tabU (tabD n ps)) u v↔u<n/\((v:Int),(u:Int))∈ps:=by
 unfold nxT tabU
 rw[lG,List.getElem?_map]
 by_cases hu:u<n
 ·rw[j0F hu]
  simp only[Option.map_some,Option.getD_some,List.mem_map,List.mem_filter,dE]
  constructor
  ·rintro⟨⟨x,y⟩,⟨g1,g2⟩,g3⟩
   simp only at g2 g3
   subst g2 g3
   exact⟨hu,g1⟩
  ·rintro⟨_,g⟩;exact⟨_,⟨g,rfl⟩,rfl⟩
 ·rw[List.getElem?_eq_none (by rw[j0d];omega)]
  simp[hu]
section
variable{lim:Nat}{M:YM}(hM:CallsY lim M.ext)(hrev:HasRev M){H0:Heap}{F:Nat->Prop}{b a:Nat}{b1 b2 b3 b4 b5:Bool}{l:List Int}{es:List E4}{xs:List (Bool×List Int)}{w0 w1:List Int}{c1 c2 c3 d0 d1:C}
variable(A:AW lim H0 F b a l es xs w0 w1 b1 b2 b3 b4 b5 c1 c2 c3 d0 d1){n:Nat}(hn:n=w0.length+w1.length)
include A hn
theorem w1k{u v:Int}:(v,u)∈psTo es w0 w1 n n↔ ∃p,p<n/\ ∃e∈es,rdI e (letr w0 w1 p)=true/\v=e.t*n+toP w0 n p/\u=e.f*n+p:=by
 simp only[psTo,List.mem_flatMap,List.mem_range,psP,List.mem_map,List.mem_filter,psE,Prod.mk.injEq]
 constructor
 ·rintro⟨p,hp,e,⟨he,hr⟩,h1,h2⟩;exact⟨p,hp,e,he,hr,h1.symm,h2.symm⟩
 ·rintro⟨p,hp,e,he,hr,h1,h2⟩;exact⟨p,hp,e,⟨he,hr⟩,h1.symm,h2.symm⟩
theorem toP_lt{p:Nat}(hp:p<n):toP w0 n p<n:=by
 have:=A.wp
 unfold toP;split<;>omega
theorem Z0a{u v:Nat}:nxT (tabU (tabD (a*n) (psTo es w0 w1 n n))) u v↔ ∃s p t,p<n/\u=s*n+p/\v=t*n+toP w0 n p/\(auL l es xs).step s (letr w0 w1 p).toNat t:=by
 have let0: ∀p,p<n->((letr w0 w1 p).toNat:Int)=letr w0 w1 p:=fun p hp=>by
  have:=J0l (k:=p) A.wp A.wl
  simp only[btw,dE]at this
  omega
 rw[w1j,w1k A hn]
 constructor
 ·rintro⟨_,p,hp,e,he,hr,h1,h2⟩
  obtain⟨k,hk⟩:=List.mem_iff_getElem?.1 he
  obtain⟨⟨s,hs1,hs2⟩,⟨t,ht1,ht2⟩,_⟩:=k0q A.ok hk
  refine⟨s,p,t,hp, ?_, ?_,e,he,hs1,ht1,by rw[let0 p hp];exact hr⟩
  ·rw[hs1]at h2
   have:(u:Int)=((s*n+p:Nat):Int):=by rw[h2];simp
   omega
  ·rw[ht1]at h1
   have:(v:Int)=((t*n+toP w0 n p:Nat):Int):=by rw[h1];simp
   omega
 ·rintro⟨s,p,t,hp,h1,h2,e,he,hs1,ht1,hr⟩
  rw[let0 p hp]at hr
  obtain⟨k,hk⟩:=List.mem_iff_getElem?.1 he
  obtain⟨⟨s',hs1',hs2⟩,_⟩:=k0q A.ok hk
  have:s'=s:=by omega
  subst this
  exact⟨by rw[h1];exact z0i hs2 hp,p,hp,e,he,hr,by rw[ht1,h2];simp,by rw[hs1,h1];simp⟩
theorem q1g{ls:List (List Bool)}(hls:ls.length=xs.length)(hmk: ∀(k':Nat) (l':List Bool) (x:Bool×List Int),ls[k']? =some l'->xs[k']? =some x->Marks n x l')(s:Nat):
  Inf (nxT (tabU (tabD (a*n) (psTo es w0 w1 n n)))) ls.length (fun k=>inB (ls.getD k [])) (s*n)↔
   ∃ρ:Nat->Nat,ρ 0=s/\(∀i,(auL l es xs).step (ρ i) (wrd w0 w1 i) (ρ (i+1)))/\ ∀k,k<(auL l es xs).m-> ∀N,∃i,N<=i/\(auL l es xs).acc k (ρ i):=by
 have hn0:0<n:=by have:=A.wp;omega
 have hmark: ∀k,k<xs.length-> ∀j,inB (ls.getD k []) j↔((j / n:Nat):Int)∈(xs.getD k (false,[])).2:=fun k hk j=>by
  have e1:ls[k]? =some (ls.getD k []):=by rw[lG,List.getElem?_eq_getElem (by omega)];rfl
  have e2:xs[k]? =some (xs.getD k (false,[])):=by rw[lG,List.getElem?_eq_getElem hk];rfl
  rw[hmk k _ _ e1 e2 j]
  constructor
  ·rintro⟨s',h1,q,h2,rfl⟩;rw[(j0c h2).1];exact h1
  ·intro h
   exact⟨j / n,h,j % n,Nat.mod_lt _ hn0,(Nat.div_add_mod' j n).symm⟩
 constructor
 ·rintro⟨f,f0,f1,f2⟩
  have st: ∀i,f (i+1) % n=toP w0 n (f i % n)/\(auL l es xs).step (f i / n) (letr w0 w1 (f i % n)).toNat (f (i+1) / n):=fun i=>by
   obtain⟨s',p,t,h1,h2,h3,h4⟩:=(Z0a A hn).1 (f1 i)
   obtain⟨d1,d2⟩:=j0c (s:=s') h1
   obtain⟨d3,d4⟩:=j0c (s:=t) (toP_lt A hn h1)
   rw[h2,h3,d1,d2,d3,d4]
   exact⟨rfl,h4⟩
  have pos: ∀i,f i % n=posN w0 n i:=by
   intro i
   induction i with
   |zero=>rw[f0];simp[posN]
   |succ i ih=>rw[(st i).1,ih];rfl
  refine⟨fun i=>f i / n,by show f 0 / n=s;rw[f0,Nat.mul_div_cancel _ hn0],fun i=> ?_,fun k hk N=> ?_⟩
  ·have:=(st i).2
   rw[pos i,w0p hn A.wp]at this
   exact this
  ·obtain⟨i,i1,i2⟩:=f2 k (by rw[hls];exact hk) N
   exact⟨i,i1,(hmark k hk _).1 i2⟩
 ·rintro⟨ρ,r0,r1,r2⟩
  refine⟨fun i=>ρ i*n+posN w0 n i,by simp[r0,posN],fun i=>(Z0a A hn).2 ⟨ρ i,posN w0 n i,ρ (i+1),(j0y hn A.wp i).1,rfl,rfl, ?_⟩,fun k hk N=> ?_⟩
  ·rw[w0p hn A.wp];exact r1 i
  ·rw[hls]at hk
   obtain⟨i,i1,i2⟩:=r2 k hk N
   refine⟨i,i1,(hmark k hk _).2 ?_⟩
   show(((ρ i*n+posN w0 n i) / n:Nat):Int)∈_
   rw[(j0c (j0y hn A.wp i).1).1];exact i2
theorem q1h{H:Heap}(f:FrB b H0 H){G:Nat->Prop}{P:List Bool}{v:C}(hP:P.length=a*n)(hv:UC H G (.sl true (uBs P)) [v]):
  ∀(d i:Nat),i+d=l.length-> ∃r:Bool,f16_8 (MH lim) (a:Int) c1 c2 c3 (n:Int) v (i:Int) H=some (.c (.bool r),H)/\(r=true↔ ∃s:Nat,(s:Int)∈l.drop i/\inB P (s*n)):=by
 have ha:=A.ha;have hwn:=A.wn
 have hn0:0<n:=by have:=A.wp;omega
 intro d
 induction d with
 |zero=>
  intro i hi
  refine⟨false, ?_, ?_⟩
  ·rw[W0u]
   simp only[J0i (j0Y A.u1 f A.hF),oS,show¬((i:Int)<((l.length:Nat):Int)) by omega,dF,bF,iF]
  ·rw[dL (by omega)];simp
 |succ d ih=>
  intro i hi
  have hlt:i<l.length:=by omega
  obtain⟨y0,y1⟩:=A.hls.2 l[i] (lM hlt)
  obtain⟨s,hs⟩:=iZ y0
  have hget:l[i]? =some (s:Int):=by rw[q0a hlt,hs]
  rw[hs]at y1
  have hsa:s<a:=by omega
  obtain⟨i2,o2,k1,k2,k3⟩:=rdN (j0Y A.u1 f A.hF) hget
  have hbn:s*n<=300*60:=Nat.mul_le_mul (by omega) (by omega)
  have e1:IntKind.wrap .i64 ((s:Int)*(n:Int))=((s*n:Nat):Int):=by rw[<-Int.natCast_mul,q0e (by omega) (by omega)]
  have hnode:=z0i hsa hn0
  rw[Nat.add_zero]at hnode
  obtain⟨p,hp⟩: ∃p,P[s*n]? =some p:=⟨_,q0a (by omega)⟩
  obtain⟨j,o,z,cs,q1,q2,q3,q4,q5⟩:=hv.elem (k:=s*n) (u:=uB p) (j0e hp)
  have q6:H.ld j o=some (.bool p):=ldX q3 (z0w q5.2)
  have q1':C.elem 1 v ((s*n:Nat):Int)=some (j,o):=q1
  rw[W0u,List.drop_eq_getElem_cons hlt]
  simp only[J0i (j0Y A.u1 f A.hF),oS,show((i:Int)<((l.length:Nat):Int)) by omega,dY,iT,k1,k3,asI_int,e1,q1',q6,asB_bool,q0b (show i<=1000000000 by have:=A.hls.1;omega)]
  cases p with
  |true=>
   refine⟨true,by simp,fun _=>⟨s,by rw[hs];simp,hp⟩,fun _=>rfl⟩
  |false=>
   obtain⟨r,h1,h2⟩:=ih (i+1) (by omega)
   refine⟨r,by simp only[bF,iF];exact h1,h2.trans ⟨fun⟨s',g1,g2⟩=>⟨s',by simp only[mC];exact .inr g1,g2⟩,fun⟨s',g1,g2⟩=> ?_⟩⟩
   rcases mC.1 g1 with g |g
   ·have:s'=s:=by omega
    subst this
    rw[inB,hp]at g2;cases g2
   ·exact⟨s',g,g2⟩
end
section
variable{lim:Nat}{M:YM}(hM:CallsY lim M.ext)(hrev:HasRev M){H:Heap}{F:Nat->Prop}{a:Nat}{b1 b2 b3 b4 b5:Bool}{l:List Int}{es:List E4}{xs:List (Bool×List Int)}{w0 w1:List Int}{c1 c2 c3 d0 d1:C}
variable(A:AW lim H F H.next a l es xs w0 w1 b1 b2 b3 b4 b5 c1 c2 c3 d0 d1)
include hM hrev A
theorem Q1r: ∃(r:Bool) (H':Heap),f16 (MH lim) (a:Int) c1 c2 c3 d0 d1 H=some (.c (.bool r),H')/\FrX none H F H' F/\(r=true↔Acc (auL l es xs) (wrd w0 w1)):=by
 have ha:=A.ha;have hwn:=A.wn;have hx8:=A.hx;have he:=A.he
 obtain⟨n,hn⟩: ∃n,n=w0.length+w1.length:=⟨_,rfl⟩
 have hN:a*n<=300*60:=Nat.mul_le_mul ha (by omega)
 have t0:=TabO.new H (a*n)
 rw[<-J0h]at t0
 have fr0:FrB H.next H (H.alloc (.cells 1 (List.replicate (a*n) [C.nilSlice]).flatten)):=⟨Nat.le_succ _,fun i hi=>q0g hi⟩
 obtain⟨Hm,g1,g2,g3⟩:=q1x hM A hn n 0 _ (by omega) fr0 (by simpa[psTo]using t0)
 have hFm: ∀i,F i->i<Hm.next:=fun i hi=>nL (A.hF i hi) g2.next
 obtain⟨H2,G,ls,c',k1,k2,k3,k4,k5,k6,k7,k8,k9⟩:=Y0R A hn g2 (tab:= .slice H.next 0 (a*n)) xs.length 0 Hm F [] .nilSlice (by omega) (.refl _) (fun _ h=>h) hFm (fun _ h=> .inl h) .nil rfl (fun l' h=>by cases h) (fun k' l' x e=>by simp at e)
 let F2:Nat->Prop:=fun i=>F i\/(H.next<=i/\i<H2.next)
 have hnx:H.next<=H2.next:=nT g2.next k2.next
 have hF2: ∀i,F2 i->i<H2.next:=fun i hi=>hi.elim (fun h=>nL (A.hF i h) hnx) fun h=>h.2
 have hGF: ∀i,G i->F2 i:=fun i hi=>(k5 i hi).imp id fun h=>⟨nT g2.next h,k4 i hi⟩
 obtain⟨G2,p1,p2,bb,_,p3⟩:=k6.fin k4
 have us:UC H2 F2 (.sl bb (ls.map setU)) [c']:=p3.mono ⟨fun i hi=>(p2 i hi).elim (hGF i) fun h=> .inr ⟨nT g2.next h.1,h.2⟩,fun _ _=>rfl⟩
 have ut:UC H2 F2 (uLs true (tabU (tabD (a*n) (psTo es w0 w1 n n)))) [.slice H.next 0 (a*n)]:=by
  have:=(g3.grow k2).uc (F:=F2) fun i hi hi2=> .inr ⟨hi,hi2⟩
  rw[j0d]at this
  exact this
 have hps:(psTo es w0 w1 n n).length<=1000000:=by
  have h1:=J0k es w0 w1 n n
  have:n*es.length<=60*6000:=Nat.mul_le_mul (by omega) he
  omega
 have hT:Table (a*n) (tabU (tabD (a*n) (psTo es w0 w1 n n))):=w0I (fun p hp=>by
  obtain⟨q,hq,e,hem,_,h1,_⟩:=(w1k (u:=p.2) (v:=p.1) A hn).1 hp
  obtain⟨k,hk⟩:=List.mem_iff_getElem?.1 hem
  obtain⟨_,⟨t,ht1,ht2⟩,_⟩:=k0q A.ok hk
  have:=z0i ht2 (toP_lt A hn hq)
  rw[ht1]at h1
  have h2:p.1=((t*n+toP w0 n q:Nat):Int):=by rw[h1];simp
  omega) hps
 obtain⟨P,q1,q2,q3⟩:=Q1q (M:=M) (by omega) hT hrev (b:=true) (b2:=bb) k8 (by omega)
 obtain⟨v,H3,F3,m1,m2,m3⟩:=z0X hM (f:=44) (us:=[uLs true (tabU (tabD (a*n) (psTo es w0 w1 n n))), .sl bb (ls.map setU)]) (vs:=[.c (.slice H.next 0 (a*n)), .c c']) q1 rfl (nT A.hl hnx) hF2 (w1q ⟨rfl,ut⟩ ⟨rfl,us⟩)
 obtain⟨vc,rfl,m4⟩:=m3.one rfl
 have f3:FrB H.next H H3:=(g2.fr k2).fr (z0x m2)
 obtain⟨r,z1,z2⟩:=q1h A hn f3 q2 m4 l.length 0 (by omega)
 refine⟨r,H3, ?_,⟨f3.next,fun i hi _=>f3.old i hi,fun _ h=>h,fun _ h=> .inl h,fun i hi=>nL (A.hF i hi) f3.next⟩, ?_⟩
 ·have e0:IntKind.wrap .i64 (((w0.length:Nat):Int)+((w1.length:Nat):Int))=(n:Int):=by rw[q0e (by omega) (by omega)];omega
  have e1:IntKind.wrap .i64 ((a:Int)*(n:Int))=((a*n:Nat):Int):=by rw[<-Int.natCast_mul,q0e (by omega) (by omega)]
  rw[Z1l]
  simp only[J0i A.v0,J0i A.v1,oS,e0,e1,iN]
  rw[if_pos ⟨by omega,by omega⟩]
  rw[show((0:Nat):Int)=0 from rfl]at g1 k1 z1
  rw[g1,k1,W0s]
  have q44:f44 (MH lim) (.slice H.next 0 (a*n)) c' H2=some (.c vc,H3):=m1
  simp only[J1q (j0Y A.u3 (g2.fr k2) A.hF),oS,Int.lt_irrefl,dF,bF,iF,q44,asC_c,z1]
 ·rw[z2,List.drop_zero]
  constructor
  ·rintro⟨s,h1,h2⟩
   obtain⟨ρ,r0,r1,r2⟩:=(q1g A hn k7 k9 s).1 ((q3 _).1 h2)
   exact⟨ρ,by rw[r0];exact h1,r1,r2⟩
  ·rintro⟨ρ,r0,r1,r2⟩
   exact⟨ρ 0,r0,(q3 _).2 ((q1g A hn k7 k9 (ρ 0)).2 ⟨ρ,rfl,r1,r2⟩)⟩
end
structure AV (lim:Nat) (H0:Heap) (F:Nat->Prop) (b a:Nat) (l:List Int) (es:List E4) (xs:List (Bool×List Int)) (b1 b2 b3:Bool) (c1 c2 c3:C):Prop where
 hl:lim<=b
 hF: ∀i,F i->i<b
 ha:a<=300
 he:es.length<=6000
 hx:xs.length<=8
 ok:es.all (eOK (a:Int))=true
 u1:UC H0 F (uIs b1 l) [c1]
 u2:UC H0 F (uEs b2 es) [c2]
 u3:UC H0 F (uLs b3 xs) [c3]
 hls:l.length<=1000000/\ ∀s∈l,0<=s/\s<(a:Int)
 hxs: ∀x∈xs,x.2.length<=1000000/\ ∀s∈x.2,0<=s/\s<(a:Int)
def accL(xs:List (Bool×List Int))(k t:Nat):Bool:=decide ((t:Int)∈(xs.getD k (false,[])).2)
section
variable{H H':Heap}{F F':Nat->Prop}
end
section
variable{lim:Nat}{M:YM}(hM:CallsY lim M.ext){H0:Heap}{F:Nat->Prop}{b a:Nat}{b1 b2 b3:Bool}{l:List Int}{es:List E4}{xs:List (Bool×List Int)}{c1 c2 c3:C}
variable(A:AV lim H0 F b a l es xs b1 b2 b3 c1 c2 c3)
include A
structure Fr1 (H0:Heap) (F:Nat->Prop) (b jl m m0:Nat) (H:Heap) (G:Nat->Prop):Prop where
 fr:FrB b H0 H
 n0:m0<=H.next
 box:H.get jl=some (.cells 1 [.int .i64 ((m+1:Nat):Int)])
 inj:G jl
 sub: ∀i,F i->G i
 lt: ∀i,G i->i<H.next
 new: ∀i,G i->F i\/i=jl\/m0<=i
omit A
theorem Fr1.step{jl m m0:Nat}{H H1:Heap}{G:Nat->Prop}(h:Fr1 H0 F b jl m m0 H G)(hj:jl<m0)(f:FrX none H G H1 G):Fr1 H0 F b jl m m0 H1 G:=
 ⟨h.fr.fr (z0x f),nT h.n0 f.next,by rw[f.keep jl (h.lt jl h.inj) (fun e=>by cases e)];exact h.box,h.inj,h.sub,f.lt,h.new⟩
theorem Fr1.app{jl m m0:Nat}{H H1:Heap}{G:Nat->Prop}(h:Fr1 H0 F b jl m m0 H G)(hj:jl<m0)(hb:b<=m0)(hn:H.next<=H1.next)(hk: ∀i,i<m0->H1.get i=H.get i)(hle:FLe H G H1 G):Fr1 H0 F b jl m m0 H1 G:=
 ⟨⟨nT h.fr.next hn,fun i hi=>by rw[hk i (by omega)];exact h.fr.old i hi⟩,nT h.n0 hn,by rw[hk jl hj];exact h.box,h.inj,h.sub,fun i hi=>nL (h.lt i hi) hn,h.new⟩
include hM A
end
section
variable{lim:Nat}{M:YM}(hM:CallsY lim M.ext){H0:Heap}{F:Nat->Prop}{b a:Nat}{b1 b2 b3:Bool}{l:List Int}{es:List E4}{xs:List (Bool×List Int)}{c1 c2 c3:C}
variable(A:AV lim H0 F b a l es xs b1 b2 b3 c1 c2 c3)
include hM A
structure Kp (H0:Heap) (F:Nat->Prop) (b jl m m0:Nat) (G:Nat->Prop) (H H':Heap) (us:List U) (c':C):Prop where
 f:Fr1 H0 F b jl m m0 H' G
 o:OutR m0 H' G 4 us c'
 le:FLe H G H' G
 low: ∀i,i<m0->H'.get i=H.get i
 nx:H.next<=H'.next
omit hM A in
theorem Kp.trans{jl m m0:Nat}{G:Nat->Prop}{H H1 H2:Heap}{us us':List U}{c c':C}(h:Kp H0 F b jl m m0 G H H1 us c)(k:Kp H0 F b jl m m0 G H1 H2 us' c'):Kp H0 F b jl m m0 G H H2 us' c':=
 ⟨k.f,k.o,h.le.trans k.le,fun i hi=>(k.low i hi).trans (h.low i hi),nT h.nx k.nx⟩
omit hM A in
theorem Kp.step{jl m m0:Nat}{G:Nat->Prop}{H H1:Heap}{us:List U}{c:C}(f:Fr1 H0 F b jl m m0 H G)(hj:jl<m0)(o:OutR m0 H G 4 us c)(k:FrX none H G H1 G):Kp H0 F b jl m m0 G H H1 us c:=
 ⟨f.step hj k,o.fr k (fun i e=>by cases e) f.lt,k.le0 f.lt,fun i hi=>k.keep i (nL hi f.n0) (fun e=>by cases e),k.next⟩
end
section
variable{lim:Nat}{M:YM}(hM:CallsY lim M.ext){H0:Heap}{F:Nat->Prop}{b a:Nat}{b1 b2 b3:Bool}{l:List Int}{es:List E4}{xs:List (Bool×List Int)}{c1 c2 c3:C}
variable(A:AV lim H0 F b a l es xs b1 b2 b3 c1 c2 c3)
structure J6 (H0:Heap) (F:Nat->Prop) (b jl m m0:Nat) (H:Heap) (G:Nat->Prop) (us:List Int) (c:C):Prop where
 f:Fr1 H0 F b jl m m0 H G
 tab:H.get (jl+2)=some (.cells 1 [c])
 row:OInts H (jl+1) c us
 ap: ∀i o n,c= .slice i o n->i≠jl+2/\ ¬G i
 nz:c≠ .nilSlice
include hM A
end
def asc:Option Int->List Int->Prop
 |_,[]=>True
 |p,x::l=>(∀y,p=some y->y<x)/\asc (some x) l
theorem code_zero{n:Int}{p:Option Int}{x:Int}:code n p x=0↔(0<=x/\x<n)/\ ∀y,p=some y->y<x:=by
 unfold code
 by_cases hb:btw x 0 (n - 1)=true
 ·have h1:0<=x/\x<n:=by simp only[btw,dE]at hb;omega
  rw[if_pos hb]
  cases p with
  |none=>simp[h1]
  |some y=>
   by_cases hy:x<=y
   ·simp only[Option.any_some,hy,dY,iT]
    exact⟨fun h=>(by cases h),fun h=>by have:=h.2 y rfl;omega⟩
   ·simp only[Option.any_some,hy,dF,bF,iF,true_iff]
    exact⟨h1,fun z hz=>by cases hz;omega⟩
 ·rw[if_neg hb]
  refine⟨fun h=>(by cases h),fun h=>absurd ?_ hb⟩
  simp only[btw,dE];omega
theorem sErr_zero{n:Int}: ∀{l:List Int} {p:Option Int},sErr n p l=0↔(∀x∈l,0<=x/\x<n)/\asc p l
 | [],p=>by simp[sErr,asc]
 |x::l,p=>by
  simp only[sErr,asc,mC,forall_eq_or_imp]
  by_cases h:code n p x=0
  ·rw[if_pos h,sErr_zero]
   obtain⟨h1,h2⟩:=code_zero.1 h
   exact⟨fun⟨a,b⟩=>⟨⟨h1,a⟩,h2,b⟩,fun⟨⟨_,a⟩,_,b⟩=>⟨a,b⟩⟩
  ·rw[if_neg h]
   exact⟨fun e=>absurd e h,fun⟨⟨a,_⟩,b,_⟩=>absurd (code_zero.2 ⟨a,b⟩) h⟩
theorem J0O{n:Int}: ∀{xs:List (Bool×List Int)},lErr n xs=0↔ ∀x∈xs,sErr n none x.2=0
 | []=>by simp[lErr]
 |x::xs=>by
  simp only[lErr,mC,forall_eq_or_imp]
  by_cases h:sErr n none x.2=0
  ·rw[if_pos h,J0O];simp[h]
  ·rw[if_neg h];simp[h]
theorem aErr_zero{a:Int}{l:List Int}{es:List E4}{xs:List (Bool×List Int)}:aErr a l es xs=0↔btw a 0 300=true/\es.length<=6000/\xs.length<=8/\es.all (eOK a)=true/\sErr a none l=0/\ ∀x∈xs,sErr a none x.2=0:=by
 unfold aErr
 by_cases h1:btw a 0 300=true
 ·rw[if_pos h1]
  by_cases h2:6000<es.length\/8<xs.length
  ·rw[if_pos h2]
   exact⟨fun h=>(by cases h),fun h=>by omega⟩
  ·rw[if_neg h2]
   by_cases h3:sErr a none l=0
   ·rw[if_pos h3]
    by_cases h4:es.all (eOK a)=true
    ·rw[if_pos h4,J0O]
     exact⟨fun h=>⟨h1,by omega,by omega,h4,h3,h⟩,fun h=>h.2.2.2.2.2⟩
    ·rw[if_neg h4]
     exact⟨fun h=>(by cases h),fun h=>absurd h.2.2.2.1 h4⟩
   ·rw[if_neg h3]
    exact⟨fun h=>absurd h h3,fun h=>absurd h.2.2.2.2.1 h3⟩
 ·rw[if_neg h1]
  exact⟨fun h=>(by cases h),fun h=>absurd h.1 h1⟩
section
variable{lim:Nat}{M:YM}(hM:CallsY lim M.ext){H:Heap}{F:Nat->Prop}{a:Int}{b1 b2 b3:Bool}{l:List Int}{es:List E4}{xs:List (Bool×List Int)}{c1 c2 c3:C}
include hM
end
inductive Rch (nx:Nat->List Nat):Nat->Nat->Prop
 |refl (u:Nat):Rch nx u u
 |step {u w v:Nat}:w∈nx u->Rch nx w v->Rch nx u v
theorem Rch.trans{nx:Nat->List Nat}{u v w:Nat}(h:Rch nx u v)(k:Rch nx v w):Rch nx u w:=by
 induction h with
 |refl=>exact k
 |step h1 _ ih=>exact .step h1 (ih k)
theorem Rch.one{nx:Nat->List Nat}{u v:Nat}(h:v∈nx u):Rch nx u v:= .step h (.refl v)
structure TS where
 num:Nat->Nat
 low:Nat->Nat
 of:Nat->Int
 st:List Nat
 c:Nat
 f:Nat
def TS.enter(σ:TS)(v:Nat):TS:=⟨fun w=>if w=v then σ.c+1 else σ.num w,fun w=>if w=v then σ.c+1 else σ.low w,σ.of,v::σ.st,σ.c+1,σ.f⟩
def TS.setLow(σ:TS)(v x:Nat):TS:={σ with low:=fun w=>if w=v then x else σ.low w}
def popTo(v:Nat)(x:Int):List Nat->(Nat->Int)->List Nat×(Nat->Int)
 | [],of=>([],of)
 |w::st,of=>if w=v then(st,fun u=>if u=w then x else of u)else popTo v x st (fun u=>if u=w then x else of u)
def TS.close(σ:TS)(v:Nat):TS:={σ with st:=(popTo v σ.f σ.st σ.of).1,of:=(popTo v σ.f σ.st σ.of).2,f:=σ.f+1}
def visL(rec:TS->Nat->Option TS)(v:Nat):List Nat->TS->Option TS
 | [],σ=>some σ
 |w::ws,σ=>if σ.num w=0 then(rec σ w).bind fun σ1=>visL rec v ws (σ1.setLow v (min (σ1.low v) (σ1.low w)))
  else if σ.of w<0 then visL rec v ws (σ.setLow v (min (σ.low v) (σ.num w)))else visL rec v ws σ
def vis(nx:Nat->List Nat):Nat->TS->Nat->Option TS
 | 0=>fun _ _=>none
 |k+1=>fun σ v=>(visL (vis nx k) v (nx v) (σ.enter v)).bind fun σ'=>if σ'.low v<σ'.num v then some σ' else if v∈σ'.st then some (σ'.close v)else none
theorem X0m{v:Nat}{x:Int}{old:List Nat}: ∀{new:List Nat} {of:Nat->Int},v∉new->popTo v x (new++v::old) of=(old,fun u=>if u∈new\/u=v then x else of u)
 | [],of,_=>by simp[popTo]
 |w::new,of,h=>by
  have hw:w≠v:=fun e=>h (by simp[e])
  rw[List.cons_append,popTo,if_neg hw,X0m (fun h1=>h (by simp[h1]))]
  congr 1
  funext u
  by_cases h1:u∈new\/u=v
  ·have h2:u∈w::new\/u=v:=h1.imp (fun h=>by simp[h]) id
   rw[if_pos h1,if_pos h2]
  ·rw[if_neg h1]
   by_cases e:u=w
   ·subst e;simp
   ·rw[if_neg e,if_neg]
    rintro(h2 |h2)
    ·rcases mC.1 h2 with h3 |h3
     ·exact e h3
     ·exact h1 (.inl h3)
    ·exact h1 (.inr h2)
structure TInv (nx:Nat->List Nat) (n:Nat) (σ:TS) (G:List Nat):Prop where
 lt: ∀x,σ.num x≠0->x<n
 dec:σ.st.Pairwise fun x y=>σ.num y<σ.num x
 mem: ∀x,x∈σ.st↔σ.num x≠0/\σ.of x<0
 cle: ∀x,σ.num x<=σ.c
 gst: ∀g∈G,g∈σ.st
 back: ∀x∈σ.st,∃g∈G,σ.num g<=σ.num x/\Rch nx x g
 fwd: ∀g∈G,∀x∈σ.st,σ.num g<=σ.num x->Rch nx g x
 blk: ∀x,σ.num x≠0->x∉G-> ∀y∈nx x,σ.num y≠0
 cls: ∀x,0<=σ.of x->σ.num x≠0/\σ.of x<σ.f/\ ∀y∈nx x,0<=σ.of y
 scc: ∀x y,0<=σ.of x->0<=σ.of y->(σ.of x=σ.of y↔Rch nx x y/\Rch nx y x)
structure TPost (nx:Nat->List Nat) (n:Nat) (σ σ':TS) (v:Nat) (G:List Nat):Prop where
 inv:TInv nx n σ' G
 num: ∀x,σ.num x≠0->σ'.num x=σ.num x
 ofs: ∀x,0<=σ.of x->σ'.of x=σ.of x
 low: ∀x,σ.num x≠0->σ'.low x=σ.low x
 new: ∃new,σ'.st=new++σ.st/\ ∀x∈new,σ.num x=0
 numv:σ.c<σ'.num v
 lowv:v∈σ'.st-> ∃y∈σ.st,σ.num y=σ'.low v/\Rch nx v y
 lowc:v∉σ'.st->σ.c<σ'.low v
 cross: ∀x∈σ'.st,σ.num x=0-> ∀y∈nx x,y∈σ.st->σ'.low v<=σ.num y
 c:σ.c<=σ'.c
structure TLoop (nx:Nat->List Nat) (n:Nat) (σ0 σ:TS) (v:Nat) (G done:List Nat):Prop where
 inv:TInv nx n σ (v::G)
 num: ∀x,σ0.num x≠0->σ.num x=σ0.num x
 ofs: ∀x,0<=σ0.of x->σ.of x=σ0.of x
 low: ∀x,σ0.num x≠0->σ.low x=σ0.low x
 new: ∃new,σ.st=new++v::σ0.st/\ ∀x∈new,σ0.num x=0/\x≠v
 numv:σ.num v=σ0.c+1
 le:σ.low v<=σ.num v
 ex: ∃y,(y=v\/y∈σ0.st)/\σ.num y=σ.low v/\Rch nx v y
 cross: ∀x∈σ.st,σ0.num x=0->x≠v-> ∀y∈nx x,y∈σ0.st->σ.low v<=σ.num y
 dn: ∀y∈done,σ.num y≠0/\(y∈σ0.st->σ.low v<=σ.num y)
 sub: ∀y∈done,y∈nx v
section
variable{nx:Nat->List Nat}{n:Nat}
def rest(n:Nat)(σ:TS):Nat:=((List.range n).filter fun w=>decide (σ.num w=0)).length
theorem J0y{σ σ':TS}(h: ∀x,σ.num x≠0->σ'.num x≠0){v:Nat}(hv:v<n)(h0:σ.num v=0)(h1:σ'.num v≠0):rest n σ'<rest n σ:=by
 unfold rest
 have key: ∀l:List Nat,v∈l->(l.filter fun w=>decide (σ'.num w=0)).length<(l.filter fun w=>decide (σ.num w=0)).length:=by
  have le: ∀l:List Nat,(l.filter fun w=>decide (σ'.num w=0)).length<=(l.filter fun w=>decide (σ.num w=0)).length:=by
   intro l
   induction l with
   |nil=>exact nR _
   |cons a l ih=>
    simp only[List.filter_cons]
    by_cases ha:σ.num a=0
    ·rw[if_pos (show decide (σ.num a=0)=true by simpa using ha)]
     split<;>simp only[List.length_cons]<;>omega
    ·rw[if_neg (show¬decide (σ.num a=0)=true by simpa using ha),if_neg (show¬decide (σ'.num a=0)=true by simpa using h a ha)]
     exact ih
  intro l
  induction l with
  |nil=>intro h;cases h
  |cons a l ih=>
   intro hm
   have:=le l
   simp only[List.filter_cons]
   by_cases e:a=v
   ·subst e
    rw[if_neg (show¬decide (σ'.num a=0)=true by simpa using h1),if_pos (show decide (σ.num a=0)=true by simpa using h0),List.length_cons];omega
   ·have hv':=ih (by rcases mC.1 hm with h |h;exact absurd h.symm e;exact h)
    by_cases ha:σ.num a=0
    ·rw[if_pos (show decide (σ.num a=0)=true by simpa using ha)]
     split<;>simp only[List.length_cons]<;>omega
    ·rw[if_neg (show¬decide (σ.num a=0)=true by simpa using ha),if_neg (show¬decide (σ'.num a=0)=true by simpa using h a ha)]
     exact hv'
 exact key _ (List.mem_range.2 hv)
theorem J0z{σ:TS}{new old:List Nat}{v:Nat}(h:(new++v::old).Pairwise fun x y=>σ.num y<σ.num x):(∀x∈new,σ.num v<σ.num x)/\(∀y∈old,σ.num y<σ.num v):=by
 rw[List.pairwise_append]at h
 obtain⟨_,h2,h3⟩:=h
 rw[List.pairwise_cons]at h2
 exact⟨fun x hx=>h3 x hx v (by simp),h2.1⟩
theorem j1i{σ:TS}{new old:List Nat}{v y:Nat}(h:(new++v::old).Pairwise fun x y=>σ.num y<σ.num x)(hy:y∈new++v::old)(hl:σ.num y<σ.num v):y∈old:=by
 obtain⟨h1,_⟩:=J0z h
 rcases mA.1 hy with g |g
 ·have:=h1 y g;omega
 ·rcases mC.1 g with g |g
  ·subst g;omega
  ·exact g
theorem Y0i{σ:TS}{G:List Nat}{v:Nat}(h:TInv nx n σ G)(hv:v<n)(h0:σ.num v=0)(hg: ∀g∈G,Rch nx g v)(hof:σ.of v<0):TLoop nx n σ (σ.enter v) v G []:=by
 have hne: ∀x,σ.num x≠0->x≠v:=fun x hx e=>hx (e▸h0)
 have hst: ∀x∈σ.st,x≠v:=fun x hx=>hne x ((h.mem x).1 hx).1
 have en: ∀x,x≠v->(σ.enter v).num x=σ.num x:=fun x hx=>if_neg hx
 have ev:(σ.enter v).num v=σ.c+1:=if_pos rfl
 refine⟨⟨fun x hx=> ?_, ?_,fun x=> ?_,fun x=> ?_,fun g hg'=> ?_,fun x hx=> ?_,fun g hg' x hx hle=> ?_,fun x hx hxG y hy=> ?_,fun x hx=> ?_,h.scc⟩,fun x hx=>en x (hne x hx),fun x _=>rfl,fun x hx=>if_neg (hne x hx),⟨[],rfl,fun x hx=>by cases hx⟩,ev, ?_,⟨v, .inl rfl, ?_, .refl v⟩,fun x hx hx0 hxv=> ?_,fun y hy=>(by cases hy),fun y hy=>(by cases hy)⟩
 ·by_cases e:x=v
  ·rw[e];exact hv
  ·exact h.lt x (by rwa [en x e]at hx)
 ·show(v::σ.st).Pairwise _
  rw[List.pairwise_cons]
  refine⟨fun y hy=> ?_,h.dec.imp_of_mem fun{x y} hx hy hlt=> ?_⟩
  ·rw[en y (hst y hy),ev];have:=h.cle y;omega
  ·rw[en x (hst x hx),en y (hst y hy)];exact hlt
 ·show x∈v::σ.st↔_/\σ.of x<0
  rw[mC,h.mem x]
  by_cases e:x=v
  ·subst e;simp[ev,hof]
  ·simp[e,en x e]
 ·by_cases e:x=v
  ·subst e;rw[ev];exact nR _
  ·rw[en x e];exact Nat.le_succ_of_le (h.cle x)
 ·rcases mC.1 hg' with e |e
  ·subst e;exact List.mem_cons_self
  ·exact List.mem_cons_of_mem _ (h.gst g e)
 ·rcases mC.1 hx with e |e
  ·subst e;exact⟨x,List.mem_cons_self,nR _, .refl x⟩
  ·obtain⟨g,g1,g2,g3⟩:=h.back x e
   refine⟨g,List.mem_cons_of_mem _ g1, ?_,g3⟩
   rw[en g (hst g (h.gst g g1)),en x (hst x e)];exact g2
 ·rcases mC.1 hg' with e |e
  ·subst e
   rcases mC.1 hx with e2 |e2
   ·subst e2;exact .refl x
   ·rw[ev,en x (hst x e2)]at hle;have:=h.cle x;omega
  ·rcases mC.1 hx with e2 |e2
   ·subst e2;exact hg g e
   ·rw[en g (hst g (h.gst g e)),en x (hst x e2)]at hle
    exact h.fwd g e x e2 hle
 ·have hxv:x≠v:=fun e=>hxG (by simp[e])
  have hxG':x∉G:=fun e=>hxG (by simp[e])
  rw[en x hxv]at hx
  have:=h.blk x hx hxG' y hy
  rw[en y (hne y this)];exact this
 ·obtain⟨c1,c2,c3⟩:=h.cls x hx
  exact⟨by rw[en x (hne x c1)];exact c1,c2,c3⟩
 ·show(if v=v then σ.c+1 else σ.low v)<=_
  rw[if_pos rfl,ev];exact nR _
 ·rw[ev];exact(if_pos rfl).symm
 ·rcases mC.1 hx with e |e
  ·exact absurd e hxv
  ·exact absurd hx0 ((h.mem x).1 e).1
end
section
variable{nx:Nat->List Nat}{n:Nat}
theorem k0Q{σ:TS}{G:List Nat}(h:TInv nx n σ G){x y:Nat}(hx:0<=σ.of x)(hr:Rch nx x y):0<=σ.of y:=by
 induction hr with
 |refl=>exact hx
 |step h1 _ ih=>exact ih ((h.cls _ hx).2.2 _ h1)
theorem q1l{σ:TS}{G:List Nat}(h:TInv nx n σ G)(v x:Nat):TInv nx n (σ.setLow v x) G:=⟨h.lt,h.dec,h.mem,h.cle,h.gst,h.back,h.fwd,h.blk,h.cls,h.scc⟩
variable(hnx: ∀x,∀y∈nx x,y<n)
theorem k1a{σ0 σ σ1:TS}{v w:Nat}{G done:List Nat}(h:TLoop nx n σ0 σ v G done)(hv0:σ0.num v=0)(hw:w∈nx v)(hw0:σ.num w=0)(hp:TPost nx n σ σ1 w (v::G)):
  TLoop nx n σ0 (σ1.setLow v (min (σ1.low v) (σ1.low w))) v G (w::done):=by
 obtain⟨new,n1,n2⟩:=h.new
 obtain⟨new1,m1,m2⟩:=hp.new
 have hvn:σ.num v≠0:=by rw[h.numv];omega
 have hwv:w≠v:=fun e=>by rw[e]at hw0;exact hvn hw0
 have hlv:σ1.low v=σ.low v:=hp.low v hvn
 have hnum0: ∀x,σ0.num x≠0->σ.num x≠0:=fun x hx=>by rw[h.num x hx];exact hx
 have hst0: ∀x∈σ0.st,x∈σ.st:=fun x hx=>by rw[n1];exact mA.2 (.inr (List.mem_cons_of_mem _ hx))
 have hvst:v∈σ.st:=by rw[n1];simp
 have hin: ∀x∈σ.st,σ.num x≠0:=fun x hx=>((h.inv.mem x).1 hx).1
 have hL:(σ1.setLow v (min (σ1.low v) (σ1.low w))).low v=min (σ.low v) (σ1.low w):=by
  show(if v=v then _ else _)=_
  rw[if_pos rfl,hlv]
 have hLle:(σ1.setLow v (min (σ1.low v) (σ1.low w))).low v<=σ.low v:=by rw[hL];exact Nat.min_le_left _ _
 refine⟨q1l hp.inv _ _,fun x hx=>(hp.num x (hnum0 x hx)).trans (h.num x hx),fun x hx=> ?_,fun x hx=> ?_, ?_,(hp.num v hvn).trans h.numv, ?_, ?_,fun x hx hx0 hxv y hy hyst=> ?_,fun y hy=> ?_,fun y hy=> ?_⟩
 ·have:=h.ofs x hx
  exact(hp.ofs x (by rw[this];exact hx)).trans this
 ·have hxv:x≠v:=fun e=>by rw[e]at hx;exact hx hv0
  show(if x=v then _ else σ1.low x)=_
  rw[if_neg hxv,hp.low x (hnum0 x hx),h.low x hx]
 ·refine⟨new1++new,by show σ1.st=_;rw[m1,n1,List.append_assoc],fun x hx=> ?_⟩
  rcases mA.1 hx with g |g
  ·have:=m2 x g
   exact⟨Classical.byContradiction fun e=>hnum0 x e this,fun e=>by rw[e]at this;exact hvn this⟩
  ·exact n2 x g
 ·rw[show(σ1.setLow v (min (σ1.low v) (σ1.low w))).num v=σ.num v from hp.num v hvn]
  exact nT hLle h.le
 ·rw[hL]
  rcases Nat.le_total (σ.low v) (σ1.low w)with hle |hle
  ·rw[Nat.min_eq_left hle]
   obtain⟨y,y1,y2,y3⟩:=h.ex
   refine⟨y,y1, ?_,y3⟩
   have:σ.num y≠0:=by
    rcases y1 with e |e
    ·rw[e];exact hvn
    ·exact hin y (hst0 y e)
   rw[show(σ1.setLow v (min (σ1.low v) (σ1.low w))).num y=σ.num y from hp.num y this];exact y2
  ·rw[Nat.min_eq_right hle]
   have hcv:σ.num v<=σ.c:=h.inv.cle v
   by_cases hws:w∈σ1.st
   ·obtain⟨y,y1,y2,y3⟩:=hp.lowv hws
    refine⟨y, ?_,by rw[show(σ1.setLow v (min (σ1.low v) (σ1.low w))).num y=σ.num y from hp.num y (hin y y1)];exact y2, .step hw y3⟩
    by_cases e:σ.num y<σ.num v
    ·have hd:=h.inv.dec
     rw[n1]at hd y1
     exact .inr (j1i hd y1 e)
    ·
     have hy:σ.num y=σ.num v:=by have:=h.le;omega
     have hd:=h.inv.dec
     rw[n1]at hd y1
     obtain⟨d1,d2⟩:=J0z hd
     rcases mA.1 y1 with g |g
     ·have:=d1 y g;omega
     ·rcases mC.1 g with g |g
      ·exact .inl g
      ·have:=d2 y g;omega
   ·have:=hp.lowc hws
    have:=h.le
    omega
 ·
  have hyσ:y∈σ.st:=hst0 y hyst
  rw[show(σ1.setLow v (min (σ1.low v) (σ1.low w))).num y=σ.num y from hp.num y (hin y hyσ)]
  rw[hL]
  have hx1:x∈σ1.st:=hx
  by_cases e:σ.num x=0
  ·have:=hp.cross x hx1 e y hy hyσ
   exact nT (Nat.min_le_right _ _) this
  ·have hxσ:x∈σ.st:=by
    rw[m1]at hx1
    rcases mA.1 hx1 with g |g
    ·exact absurd (m2 x g) e
    ·exact g
   exact nT (Nat.min_le_left _ _) (h.cross x hxσ hx0 hxv y hy hyst)
 ·rcases mC.1 hy with e |e
  ·subst e
   have hy0: ∀(_:y∈σ0.st),False:=fun g=>hin y (hst0 y g) hw0
   exact⟨by show σ1.num y≠0;have:=hp.numv;omega,fun g=>(hy0 g).elim⟩
  ·obtain⟨d1,d2⟩:=h.dn y e
   have hn:(σ1.setLow v (min (σ1.low v) (σ1.low w))).num y=σ.num y:=hp.num y d1
   rw[hn]
   exact⟨d1,fun g=>nT hLle (d2 g)⟩
 ·rcases mC.1 hy with e |e
  ·rw[e];exact hw
  ·exact h.sub y e
theorem Q1s{σ0 σ:TS}{v w:Nat}{G done:List Nat}(h:TLoop nx n σ0 σ v G done)(hv0:σ0.num v=0)(hw:w∈nx v)(hw0:σ.num w≠0)(hof:σ.of w<0):TLoop nx n σ0 (σ.setLow v (min (σ.low v) (σ.num w))) v G (w::done):=by
 obtain⟨new,n1,n2⟩:=h.new
 have hws:w∈σ.st:=(h.inv.mem w).2 ⟨hw0,hof⟩
 have hL:(σ.setLow v (min (σ.low v) (σ.num w))).low v=min (σ.low v) (σ.num w):=if_pos rfl
 have hLle:(σ.setLow v (min (σ.low v) (σ.num w))).low v<=σ.low v:=by rw[hL];exact Nat.min_le_left _ _
 refine⟨q1l h.inv _ _,h.num,h.ofs,fun x hx=> ?_,h.new,h.numv,nT hLle h.le, ?_,fun x hx hx0 hxv y hy hyst=>nT hLle (h.cross x hx hx0 hxv y hy hyst),fun y hy=> ?_,fun y hy=> ?_⟩
 ·have hxv:x≠v:=fun e=>by rw[e]at hx;exact hx hv0
  show(if x=v then _ else σ.low x)=_
  rw[if_neg hxv];exact h.low x hx
 ·rw[hL]
  rcases Nat.lt_or_ge (σ.num w) (σ.low v)with hlt |hge
  ·rw[Nat.min_eq_right (Nat.le_of_lt hlt)]
   have hd:=h.inv.dec
   rw[n1]at hd hws
   exact⟨w, .inr (j1i hd hws (by have:=h.le;omega)),rfl, .one hw⟩
  ·rw[Nat.min_eq_left hge];exact h.ex
 ·rcases mC.1 hy with e |e
  ·subst e;exact⟨hw0,fun _=>by rw[hL];exact Nat.min_le_right _ _⟩
  ·exact⟨(h.dn y e).1,fun g=>nT hLle ((h.dn y e).2 g)⟩
 ·rcases mC.1 hy with e |e
  ·rw[e];exact hw
  ·exact h.sub y e
theorem Q1t{σ0 σ:TS}{v w:Nat}{G done:List Nat}(h:TLoop nx n σ0 σ v G done)(hw:w∈nx v)(hw0:σ.num w≠0)(hof: ¬σ.of w<0):TLoop nx n σ0 σ v G (w::done):=by
 obtain⟨new,n1,n2⟩:=h.new
 refine⟨h.inv,h.num,h.ofs,h.low,h.new,h.numv,h.le,h.ex,h.cross,fun y hy=> ?_,fun y hy=> ?_⟩
 ·rcases mC.1 hy with e |e
  ·subst e
   refine⟨hw0,fun g=> ?_⟩
   have:y∈σ.st:=by rw[n1];exact mA.2 (.inr (List.mem_cons_of_mem _ g))
   exact absurd ((h.inv.mem y).1 this).2 hof
  ·exact h.dn y e
 ·rcases mC.1 hy with e |e
  ·rw[e];exact hw
  ·exact h.sub y e
theorem k1b{σ0 σ:TS}{v:Nat}{G done:List Nat}(h0:TInv nx n σ0 G)(h:TLoop nx n σ0 σ v G done)(hv0:σ0.num v=0)(hall: ∀y∈nx v,y∈done)(hlt:σ.low v<σ.num v):TPost nx n σ0 σ v G:=by
 obtain⟨new,n1,n2⟩:=h.new
 obtain⟨y,y1,y2,y3⟩:=h.ex
 have hd:=h.inv.dec
 rw[n1]at hd
 obtain⟨d1,d2⟩:=J0z hd
 have hvG:v∉G:=fun e=>((h0.mem v).1 (h0.gst v e)).1 hv0
 have hys:y∈σ0.st:=y1.resolve_left fun e=>by rw[e]at y2;omega
 have hyσ:y∈σ.st:=by rw[n1];exact mA.2 (.inr (List.mem_cons_of_mem _ hys))
 have vback: ∃g∈G,σ.num g<=σ.num y/\Rch nx v g:=by
  obtain⟨g,g1,g2,g3⟩:=h.inv.back y hyσ
  rcases mC.1 g1 with e |e
  ·rw[e]at g2;have:=d2 y hys;omega
  ·exact⟨g,e,g2,y3.trans g3⟩
 refine⟨⟨h.inv.lt,h.inv.dec,h.inv.mem,h.inv.cle,fun g hg=>h.inv.gst g (List.mem_cons_of_mem _ hg),fun x hx=> ?_,fun g hg=>h.inv.fwd g (List.mem_cons_of_mem _ hg),fun x hx hxG z hz=> ?_,h.inv.cls,h.inv.scc⟩,h.num,h.ofs,h.low,⟨new++[v],by rw[n1];simp,fun x hx=> ?_⟩,by rw[h.numv];omega,fun _=>⟨y,hys, ?_,y3⟩,fun hn=> ?_,fun x hx hx0 z hz hzs=> ?_, ?_⟩
 ·obtain⟨g,g1,g2,g3⟩:=h.inv.back x hx
  rcases mC.1 g1 with e |e
  ·subst e
   obtain⟨g',k1,k2,k3⟩:=vback
   have:=d2 y hys
   exact⟨g',k1,by omega,g3.trans k3⟩
  ·exact⟨g,e,g2,g3⟩
 ·by_cases e:x=v
  ·subst e;exact(h.dn z (hall z hz)).1
  ·exact h.inv.blk x hx (fun g=>(mC.1 g).elim e hxG) z hz
 ·rcases mA.1 hx with g |g
  ·exact(n2 x g).1
  ·rw[List.mem_singleton.1 g];exact hv0
 ·have:σ0.num y≠0:=((h0.mem y).1 hys).1
  rw[<-h.num y this];exact y2
 ·exact absurd (show v∈σ.st by rw[n1];simp) hn
 ·have hz0:σ0.num z≠0:=((h0.mem z).1 hzs).1
  rw[<-h.num z hz0]
  by_cases e:x=v
  ·subst e;exact(h.dn z (hall z hz)).2 hzs
  ·exact h.cross x hx hx0 e z hz hzs
 ·have:=h.inv.cle v;rw[h.numv]at this;omega
theorem q1m{σ0 σ:TS}{v:Nat}{G done:List Nat}(h0:TInv nx n σ0 G)(h:TLoop nx n σ0 σ v G done)(hv0:σ0.num v=0)(hall: ∀y∈nx v,y∈done)(hge: ¬σ.low v<σ.num v):TPost nx n σ0 (σ.close v) v G:=by
 obtain⟨new,n1,n2⟩:=h.new
 have hd:=h.inv.dec
 rw[n1]at hd
 obtain⟨d1,d2⟩:=J0z hd
 have hlow:σ.low v=σ.num v:=by have:=h.le;omega
 have hvn:v∉new:=fun e=>(n2 v e).2 rfl
 have hvG:v∉G:=fun e=>((h0.mem v).1 (h0.gst v e)).1 hv0
 have hC:σ.close v={σ with st:=σ0.st,of:=fun u=>if u∈new\/u=v then(σ.f:Int)else σ.of u,f:=σ.f+1}:=by
  unfold TS.close
  rw[n1,X0m hvn]
 have memC: ∀u,(u∈new\/u=v)↔(u∈σ.st/\u∉σ0.st):=fun u=>by
  rw[n1,mA,mC]
  constructor
  ·rintro(g |g)
   ·exact⟨.inl g,fun e=>by have:=(n2 u g).1;exact((h0.mem u).1 e).1 this⟩
   ·subst g;exact⟨.inr (.inl rfl),fun e=>((h0.mem u).1 e).1 hv0⟩
  ·rintro⟨g |g |g,e⟩
   ·exact .inl g
   ·exact .inr g
   ·exact absurd g e
 have inC: ∀u,(u∈new\/u=v)->u∈σ.st/\σ.num v<=σ.num u:=fun u hu=>⟨((memC u).1 hu).1,by
  rcases hu with g |g
  ·exact Nat.le_of_lt (d1 u g)
  ·rw[g];exact nR _⟩
 have nodeC: ∀u,(u∈new\/u=v)-> ∀z∈nx u,(z∈new\/z=v)\/0<=σ.of z:=fun u hu z hz=>by
  have hz0:σ.num z≠0:=by
   rcases hu with g |g
   ·refine h.inv.blk u ((h.inv.mem u).1 (inC u (.inl g)).1).1 (fun e=> ?_) z hz
    rcases mC.1 e with e |e
    ·rw[e]at g;exact hvn g
    ·exact((memC u).1 (.inl g)).2 (h0.gst u e)
   ·rw[g]at hz;exact(h.dn z (hall z hz)).1
  rcases Int.lt_or_le (σ.of z) 0 with hzo |hzo
  ·have hzs:z∈σ.st:=(h.inv.mem z).2 ⟨hz0,hzo⟩
   by_cases hz1:z∈σ0.st
   ·exfalso
    have hzlt:σ.num z<σ.num v:=d2 z hz1
    have:σ.low v<=σ.num z:=by
     rcases hu with g |g
     ·exact h.cross u (inC u (.inl g)).1 (n2 u g).1 (n2 u g).2 z hz hz1
     ·rw[g]at hz;exact(h.dn z (hall z hz)).2 hz1
    omega
   ·exact .inl ((memC z).2 ⟨hzs,hz1⟩)
  ·exact .inr hzo
 have reachC: ∀{u z},Rch nx u z->(u∈new\/u=v)->(z∈new\/z=v)\/0<=σ.of z:=fun{u z} hr=>by
  induction hr with
  |refl=>exact fun hu=> .inl hu
  |step h1 h2 ih=>
   intro hu
   rcases nodeC _ hu _ h1 with g |g
   ·exact ih g
   ·exact .inr (k0Q h.inv g h2)
 have cfalse: ∀u,(u∈new\/u=v)-> ¬0<=σ.of u:=fun u hu e=>by have:=((h.inv.mem u).1 (inC u hu).1).2;omega
 have toV: ∀u,(u∈new\/u=v)->Rch nx u v:=fun u hu=>by
  obtain⟨g,g1,g2,g3⟩:=h.inv.back u (inC u hu).1
  rcases mC.1 g1 with e |e
  ·rw[e]at g3;exact g3
  ·exfalso
   rcases reachC g3 hu with k |k
   ·exact((memC g).1 k).2 (h0.gst g e)
   ·have hgs:=h.inv.gst g (List.mem_cons_of_mem _ e)
    have:=((h.inv.mem g).1 hgs).2;omega
 have fromV: ∀u,(u∈new\/u=v)->Rch nx v u:=fun u hu=>h.inv.fwd v List.mem_cons_self u (inC u hu).1 (inC u hu).2
 have numst: ∀x∈σ0.st,σ0.num x≠0:=fun x hx=>((h0.mem x).1 hx).1
 have st0σ: ∀x∈σ0.st,x∈σ.st:=fun x hx=>by rw[n1];exact mA.2 (.inr (List.mem_cons_of_mem _ hx))
 have ofC: ∀u,¬(u∈new\/u=v)->(σ.close v).of u=σ.of u:=fun u hu=>by rw[hC];exact if_neg hu
 have ofC1: ∀u,(u∈new\/u=v)->(σ.close v).of u=(σ.f:Int):=fun u hu=>by rw[hC];exact if_pos hu
 have stC:(σ.close v).st=σ0.st:=by rw[hC]
 have numC:(σ.close v).num=σ.num:=by rw[hC]
 have lowC:(σ.close v).low=σ.low:=by rw[hC]
 have cC:(σ.close v).c=σ.c:=by rw[hC]
 have fC:(σ.close v).f=σ.f+1:=by rw[hC]
 have closedC: ∀x,0<=(σ.close v).of x↔(x∈new\/x=v)\/0<=σ.of x:=fun x=>by
  by_cases hx:x∈new\/x=v
  ·rw[ofC1 x hx];exact⟨fun _=> .inl hx,fun _=>by omega⟩
  ·rw[ofC x hx];exact⟨.inr,fun g=>g.resolve_left hx⟩
 refine⟨⟨fun x hx=>h.inv.lt x (by rw[numC]at hx;exact hx), ?_,fun x=> ?_,fun x=> ?_,fun g hg=>by rw[stC];exact h0.gst g hg,fun x hx=> ?_,fun g hg x hx hle=> ?_,fun x hx hxG z hz=> ?_,fun x hx=> ?_,fun x z hx hz=> ?_⟩,fun x hx=>by rw[numC];exact h.num x hx,fun x hx=> ?_,fun x hx=>by rw[lowC];exact h.low x hx,⟨[],by rw[stC];rfl,fun x hx=>(by cases hx)⟩,by rw[numC,h.numv];omega,fun hs=> ?_,fun _=>by rw[lowC,hlow,h.numv];omega,fun x hx hx0=> ?_, ?_⟩
 ·rw[stC,numC]
  rw[List.pairwise_append,List.pairwise_cons]at hd
  exact hd.2.1.2
 ·rw[stC,numC]
  constructor
  ·intro hx
   have hxn: ¬(x∈new\/x=v):=fun g=>((memC x).1 g).2 hx
   rw[ofC x hxn]
   exact(h.inv.mem x).1 (st0σ x hx)
  ·rintro⟨g1,g2⟩
   have hxn: ¬(x∈new\/x=v):=fun g=>by rw[ofC1 x g]at g2;omega
   rw[ofC x hxn]at g2
   have:=(h.inv.mem x).2 ⟨g1,g2⟩
   exact Classical.byContradiction fun e=>hxn ((memC x).2 ⟨this,e⟩)
 ·rw[numC,cC];exact h.inv.cle x
 ·rw[stC]at hx
  obtain⟨g,g1,g2,g3⟩:=h.inv.back x (st0σ x hx)
  rw[numC]
  rcases mC.1 g1 with e |e
  ·rw[e]at g2;have:=d2 x hx;omega
  ·exact⟨g,e,g2,g3⟩
 ·rw[stC]at hx
  rw[numC]at hle
  exact h.inv.fwd g (List.mem_cons_of_mem _ hg) x (st0σ x hx) hle
 ·rw[numC]at hx⊢
  by_cases e:x=v
  ·rw[e]at hz;exact(h.dn z (hall z hz)).1
  ·exact h.inv.blk x hx (fun g=>(mC.1 g).elim e hxG) z hz
 ·rw[numC,fC]
  rcases(closedC x).1 hx with g |g
  ·refine⟨((h.inv.mem x).1 (inC x g).1).1,by rw[ofC1 x g];omega,fun z hz=>(closedC z).2 (nodeC x g z hz)⟩
  ·obtain⟨c1,c2,c3⟩:=h.inv.cls x g
   have hxn: ¬(x∈new\/x=v):=fun k=>cfalse x k g
   exact⟨c1,by rw[ofC x hxn];omega,fun z hz=>(closedC z).2 (.inr (c3 z hz))⟩
 ·rcases(closedC x).1 hx with g |g<;>rcases(closedC z).1 hz with k |k
  ·rw[ofC1 x g,ofC1 z k]
   exact⟨fun _=>⟨(toV x g).trans (fromV z k),(toV z k).trans (fromV x g)⟩,fun _=>rfl⟩
  ·have hzn: ¬(z∈new\/z=v):=fun e=>cfalse z e k
   rw[ofC1 x g,ofC z hzn]
   have:=(h.inv.cls z k).2.1
   exact⟨fun e=>by omega,fun⟨_,e2⟩=>absurd (k0Q h.inv k e2) (cfalse x g)⟩
  ·have hxn: ¬(x∈new\/x=v):=fun e=>cfalse x e g
   rw[ofC1 z k,ofC x hxn]
   have:=(h.inv.cls x g).2.1
   exact⟨fun e=>by omega,fun⟨e2,_⟩=>absurd (k0Q h.inv g e2) (cfalse z k)⟩
  ·have hxn: ¬(x∈new\/x=v):=fun e=>cfalse x e g
   have hzn: ¬(z∈new\/z=v):=fun e=>cfalse z e k
   rw[ofC x hxn,ofC z hzn]
   exact h.inv.scc x z g k
 ·have hx':=h.ofs x hx
  have hxn: ¬(x∈new\/x=v):=fun g=>cfalse x g (by rw[hx'];exact hx)
  rw[ofC x hxn];exact hx'
 ·rw[stC]at hs
  exact absurd hv0 (numst v hs)
 ·rw[stC]at hx
  exact absurd hx0 (numst x hx)
 ·rw[cC];have:=h.inv.cle v;rw[h.numv]at this;omega
include hnx
theorem Z1G: ∀(k:Nat) (σ:TS) (v:Nat) (G:List Nat),TInv nx n σ G->v<n->σ.num v=0->(∀g∈G,Rch nx g v)->rest n σ<=k-> ∃σ',vis nx k σ v=some σ'/\TPost nx n σ σ' v G:=by
 intro k
 induction k with
 |zero=>
  intro σ v G h hv h0 hg hk
  have:rest n (σ.enter v)<rest n σ:=J0y (fun x hx=>by
   show(if x=v then _ else σ.num x)≠0
   split
   ·omega
   ·exact hx) hv h0 (by show(if v=v then _ else _)≠0;rw[if_pos rfl];omega)
  omega
 |succ k ih=>
  intro σ0 v G h hv h0 hg hk
  have hof: ∀{σ:TS} {G:List Nat},TInv nx n σ G-> ∀w,σ.num w=0->σ.of w<0:=fun{σ G} h w hw=>by
   rcases Int.lt_or_le (σ.of w) 0 with g |g
   ·exact g
   ·exact absurd hw (h.cls w g).1
  have loop: ∀(ws done:List Nat) (σ:TS),TLoop nx n σ0 σ v G done->(∀w∈ws,w∈nx v)-> ∃σ',visL (vis nx k) v ws σ=some σ'/\ ∃done',TLoop nx n σ0 σ' v G done'/\(∀y∈done,y∈done')/\ ∀y∈ws,y∈done':=by
   intro ws
   induction ws with
   |nil=>intro done σ hl _;exact⟨σ,rfl,done,hl,fun _ h=>h,fun _ h=>(by cases h)⟩
   |cons w ws ihw=>
    intro done σ hl hws
    have hw:w∈nx v:=hws w (by simp)
    have hws': ∀u∈ws,u∈nx v:=fun u hu=>hws u (by simp[hu])
    have fin: ∀σ1,TLoop nx n σ0 σ1 v G (w::done)->(visL (vis nx k) v (w::ws) σ=visL (vis nx k) v ws σ1)-> ∃σ',visL (vis nx k) v (w::ws) σ=some σ'/\ ∃done',TLoop nx n σ0 σ' v G done'/\(∀y∈done,y∈done')/\ ∀y∈w::ws,y∈done':=fun σ1 h1 he=>by
     obtain⟨σ',g1,done',g2,g3,g4⟩:=ihw (w::done) σ1 h1 hws'
     exact⟨σ',he.trans g1,done',g2,fun y hy=>g3 y (by simp[hy]),fun y hy=>(mC.1 hy).elim (fun e=>by rw[e];exact g3 w (by simp)) (g4 y)⟩
    by_cases hw0:σ.num w=0
    ·have hrest:rest n σ<=k:=by
      have:rest n σ<rest n σ0:=J0y (fun x hx=>by rw[hl.num x hx];exact hx) hv h0 (by rw[hl.numv];omega)
      omega
     obtain⟨new,n1,_⟩:=hl.new
     obtain⟨σ1,p1,p2⟩:=ih σ w (v::G) hl.inv (hnx v w hw) hw0 (fun g hgm=>by
      rcases mC.1 hgm with e |e
      ·rw[e];exact .one hw
      ·exact(hg g e).trans (.one hw)) hrest
     refine fin _ (k1a hl h0 hw hw0 p2) ?_
     simp only[visL,hw0,iT,p1,oS]
    ·by_cases ho:σ.of w<0
     ·refine fin _ (Q1s hl h0 hw hw0 ho) ?_
      simp only[visL,if_neg hw0,if_pos ho]
     ·refine fin _ (Q1t hl hw hw0 ho) ?_
      simp only[visL,if_neg hw0,if_neg ho]
  obtain⟨σ',g1,done,g2,_,g3⟩:=loop (nx v) [] _ (Y0i h hv h0 hg (hof h v h0)) (fun _ h=>h)
  by_cases hlt:σ'.low v<σ'.num v
  ·exact⟨σ',by simp only[vis,g1,oS,if_pos hlt],k1b h g2 h0 g3 hlt⟩
  ·obtain⟨new,n1,_⟩:=g2.new
   have hvs:v∈σ'.st:=by rw[n1];simp
   exact⟨σ'.close v,by simp only[vis,g1,oS,if_neg hlt,if_pos hvs],q1m h g2 h0 g3 hlt⟩
omit hnx
def visAll(nx:Nat->List Nat)(k:Nat):List Nat->TS->Option TS
 | [],σ=>some σ
 |v::vs,σ=>if σ.num v=0 then(vis nx k σ v).bind fun σ'=>visAll nx k vs σ' else visAll nx k vs σ
def TS.start:TS:=⟨fun _=>0,fun _=>0,fun _=> -1,[],0,0⟩
theorem q1n:TInv nx n TS.start []:=by
 refine⟨fun x hx=>absurd rfl hx,List.Pairwise.nil,fun x=>⟨fun h=>(by cases h),fun h=>absurd rfl h.1⟩,fun x=>nR _,fun g hg=>(by cases hg),fun x hx=>(by cases hx),fun g hg=>(by cases hg),fun x hx=>absurd rfl hx,fun x hx=> ?_,fun x y hx=> ?_⟩
 ·have:(0:Int)<= -1:=hx;omega
 ·have:(0:Int)<= -1:=hx;omega
include hnx
theorem w0K{k:Nat}(hk:n<=k): ∀(vs:List Nat) (σ:TS),TInv nx n σ []->(∀v∈vs,v<n)-> ∃σ',visAll nx k vs σ=some σ'/\TInv nx n σ' []/\(∀x,σ.num x≠0->σ'.num x≠0)/\ ∀v∈vs,σ'.num v≠0
 | [],σ,h,_=>⟨σ,rfl,h,fun _ h=>h,fun _ h=>(by cases h)⟩
 |v::vs,σ,h,hv=>by
  have hv': ∀u∈vs,u<n:=fun u hu=>hv u (by simp[hu])
  by_cases h0:σ.num v=0
  ·have hr:rest n σ<=k:=by
    refine nT ?_ hk
    unfold rest
    have:=List.length_filter_le (fun w=>decide (σ.num w=0)) (List.range n)
    rwa [List.length_range]at this
   obtain⟨σ1,p1,p2⟩:=Z1G hnx k σ v [] h (hv v (by simp)) h0 (fun g hg=>(by cases hg)) hr
   obtain⟨σ',q1,q2,q3,q4⟩:=w0K hk vs σ1 p2.inv hv'
   have hm: ∀x,σ.num x≠0->σ1.num x≠0:=fun x hx=>by rw[p2.num x hx];exact hx
   refine⟨σ',by simp only[visAll,h0,iT,p1,oS,q1],q2,fun x hx=>q3 x (hm x hx),fun u hu=> ?_⟩
   rcases mC.1 hu with e |e
   ·subst e;exact q3 u (by have:=p2.numv;omega)
   ·exact q4 u e
  ·obtain⟨σ',q1,q2,q3,q4⟩:=w0K hk vs σ h hv'
   refine⟨σ',by simp only[visAll,if_neg h0,q1],q2,q3,fun u hu=> ?_⟩
   rcases mC.1 hu with e |e
   ·subst e;exact q3 u h0
   ·exact q4 u e
theorem W0T{k:Nat}(hk:n<=k): ∃σ,visAll nx k (List.range n) TS.start=some σ/\(∀x,x<n->0<=σ.of x/\σ.of x<σ.f)/\ ∀x y,x<n->y<n->(σ.of x=σ.of y↔Rch nx x y/\Rch nx y x):=by
 obtain⟨σ,h1,h2,_,h4⟩:=w0K hnx hk (List.range n) TS.start q1n (fun v hv=>List.mem_range.1 hv)
 have hst: ∀x,x∉σ.st:=fun x hx=>by
  obtain⟨g,g1,_⟩:=h2.back x hx
  cases g1
 have hof: ∀x,x<n->0<=σ.of x:=fun x hx=>by
  have hn:=h4 x (List.mem_range.2 hx)
  rcases Int.lt_or_le (σ.of x) 0 with g |g
  ·exact absurd ((h2.mem x).2 ⟨hn,g⟩) (hst x)
  ·exact g
 exact⟨σ,h1,fun x hx=>⟨hof x hx,(h2.cls x (hof x hx)).2.1⟩,fun x y hx hy=>h2.scc x y (hof x hx) (hof y hy)⟩
end
def fc(n:Nat)(g:Nat->Int):List C:=(List.range n).map fun x=> .int .i64 (g x)
theorem z0T(n:Nat)(g:Nat->Int):(fc n g).length=n:=by simp[fc]
theorem k0B{n x:Nat}{g:Nat->Int}(h:x<n):(fc n g)[x]? =some (.int .i64 (g x)):=by simp[fc,h]
theorem Z0y{n x:Nat}{g:Nat->Int}{y:Int}(h:x<n):(fc n g).set x (.int .i64 y)=fc n fun u=>if u=x then y else g u:=by
 refine List.ext_getElem? fun i=> ?_
 rw[List.getElem?_set]
 by_cases hi:i<n
 ·rw[k0B hi,k0B hi,z0T]
  by_cases e:x=i
  ·subst e;simp[h]
  ·rw[if_neg e,if_neg (fun e'=>e e'.symm)]
 ·rw[List.getElem?_eq_none (by rw[z0T];omega),List.getElem?_eq_none (by rw[z0T];omega)]
  have:x≠i:=by omega
  simp[this]
structure TNum (n:Nat) (σ σ':TS):Prop where
 c:σ.c+rest n σ<=n->σ'.c+rest n σ'<=n
 f:σ'.f+σ.c<=σ.f+σ'.c
 st:σ.st.length<=σ.c->σ'.st.length<=σ'.c
 lt:(∀x∈σ.st,x<n)-> ∀x∈σ'.st,x<n
theorem TNum.refl(n:Nat)(σ:TS):TNum n σ σ:=⟨id,nR _,id,id⟩
theorem TNum.trans{n:Nat}{σ σ1 σ2:TS}(h:TNum n σ σ1)(k:TNum n σ1 σ2):TNum n σ σ2:=⟨fun e=>k.c (h.c e),by have:=h.f;have:=k.f;omega,fun e=>k.st (h.st e),fun e=>k.lt (h.lt e)⟩
theorem TNum.setLow(n:Nat)(σ:TS)(v x:Nat):TNum n σ (σ.setLow v x):=⟨id,nR _,id,id⟩
theorem X0l(v:Nat)(x:Int): ∀(st:List Nat) (of:Nat->Int),(popTo v x st of).1.length<=st.length/\ ∀u∈(popTo v x st of).1,u∈st
 | [],of=>⟨nR _,fun u h=>h⟩
 |w::st,of=>by
  simp only[popTo]
  split
  ·exact⟨by simp,fun u h=>List.mem_cons_of_mem _ h⟩
  ·obtain⟨h1,h2⟩:=X0l v x st fun u=>if u=w then x else of u
   exact⟨by simp only[List.length_cons];omega,fun u h=>List.mem_cons_of_mem _ (h2 u h)⟩
theorem w0w{n:Nat}{rec:TS->Nat->Option TS}{v:Nat}(hrec: ∀σ w σ',σ.num w=0->w<n->rec σ w=some σ'->TNum n σ σ'): ∀(ws:List Nat) (σ σ':TS),(∀w∈ws,w<n)->visL rec v ws σ=some σ'->TNum n σ σ'
 | [],σ,σ',_,h=>by simp only[visL]at h;cases h;exact .refl n σ
 |w::ws,σ,σ',hw,h=>by
  have hw': ∀u∈ws,u<n:=fun u hu=>hw u (by simp[hu])
  simp only[visL]at h
  split at h
  ·rename_i h0
   obtain⟨σ1,h1,h2⟩:=oB.1 h
   exact(hrec σ w σ1 h0 (hw w (by simp)) h1).trans ((TNum.setLow n σ1 _ _).trans (w0w hrec ws _ _ hw' h2))
  ·split at h
   ·exact(TNum.setLow n σ _ _).trans (w0w hrec ws _ _ hw' h)
   ·exact w0w hrec ws _ _ hw' h
theorem K0i{nx:Nat->List Nat}{n:Nat}(hnx: ∀x,∀y∈nx x,y<n): ∀(k:Nat) (σ:TS) (v:Nat) (σ':TS),σ.num v=0->v<n->vis nx k σ v=some σ'->TNum n σ σ'/\σ'.f+σ.c+1<=σ.f+σ'.c+1
 | 0,σ,v,σ',_,_,h=>by simp[vis]at h
 |k+1,σ,v,σ',h0,hv,h=>by
  simp only[vis]at h
  obtain⟨σ1,h1,h2⟩:=oB.1 h
  have a:=w0w (n:=n) (fun σ w σ' g0 g1 g2=>(K0i hnx k σ w σ' g0 g1 g2).1) _ _ _ (hnx v) h1
  have hr:rest n (σ.enter v)<rest n σ:=J0y (fun x hx=>by
   show(if x=v then _ else σ.num x)≠0
   split
   ·omega
   ·exact hx) hv h0 (by show(if v=v then _ else _)≠0;rw[if_pos rfl];omega)
  have ec:(σ.enter v).c=σ.c+1:=rfl
  have ef:(σ.enter v).f=σ.f:=rfl
  have es:(σ.enter v).st=v::σ.st:=rfl
  have b:TNum n σ σ1/\σ1.f+σ.c+1<=σ.f+σ1.c:=by
   refine⟨⟨fun e=>a.c (by rw[ec];omega),by have:=a.f;rw[ec,ef]at this;omega,fun e=>a.st (by rw[es,ec,List.length_cons];omega),fun e=>a.lt (by rw[es];intro x hx;rcases mC.1 hx with g |g;rw[g];exact hv;exact e x g)⟩,by have:=a.f;rw[ec,ef]at this;omega⟩
  split at h2
  ·cases h2
   exact⟨b.1,by omega⟩
  ·split at h2
   ·cases h2
    obtain⟨p1,p2⟩:=X0l v σ1.f σ1.st σ1.of
    refine⟨⟨b.1.c, ?_,fun e=>nT p1 (b.1.st e),fun e x hx=>b.1.lt e x (p2 x hx)⟩, ?_⟩
    ·show σ1.f+1+σ.c<=σ.f+σ1.c
     omega
    ·show σ1.f+1+σ.c+1<=σ.f+σ1.c+1
     omega
   ·cases h2
structure TSR (H:Heap) (b jc jn jl jo n:Nat) (gc sc:C) (σ:TS):Prop where
 hc:H.get jc=some (.cells 7 [gc, .slice jn 0 n, .slice jl 0 n, .slice jo 0 n,sc, .int .i64 (σ.c:Int), .int .i64 (σ.f:Int)])
 hn: ∃z,H.get jn=some (.cells z (fc n fun x=>(σ.num x:Int)))
 hl: ∃z,H.get jl=some (.cells z (fc n fun x=>(σ.low x:Int)))
 ho:H.get jo=some (.cells 1 (fc n σ.of))
 st:OInts H b sc (σ.st.reverse.map fun(x:Nat)=>(x:Int))
 ap: ∀i o m,sc= .slice i o m->i≠jc/\i≠jn/\i≠jl/\i≠jo
 lt:jc<H.next/\jn<H.next/\jl<H.next/\jo<H.next
structure TIds (lim b jc jn jl jo:Nat):Prop where
 lim:lim<=b
 ge:b<=jc/\b<=jn/\b<=jl/\b<=jo
 ne:jc≠jn/\jc≠jl/\jc≠jo/\jn≠jl/\jn≠jo/\jl≠jo
theorem q0E{H:Heap}{lim i o z:Nat}{cs:List C}{x:C}(h:H.get i=some (.cells z cs))(hl:lim<=i)(ho:o<cs.length):Heap.st lim H i o [x]=some (H.put i (.cells z (cs.set o x))):=J0g h hl ho
section
variable{H:Heap}{lim b jc jn jl jo n:Nat}{gc sc:C}{σ:TS}
theorem j0a{H:Heap}{b i:Nat}{o:Vm.Obj}{x:C}{l:List Int}(h:OInts H b x l)(hi: ∀j p n,x= .slice j p n->j≠i):OInts (H.put i o) b x l:=by
 refine⟨h.1,h.2.1,h.2.2.imp id fun⟨j,p,cs,h1,h2,h3,h4,h5⟩=>⟨j,p,cs,h1,h2,h3, ?_,h5⟩⟩
 rw[q0d (hi _ _ _ h1)]
 exact h4
theorem TSR.setLow(h:TSR H b jc jn jl jo n gc sc σ)(I:TIds lim b jc jn jl jo){v:Nat}(hv:v<n)(x:Nat): ∃H',Heap.st lim H jl v [.int .i64 (x:Int)]=some H'/\TSR H' b jc jn jl jo n gc sc (σ.setLow v x)/\(∀i,i<b->H'.get i=H.get i)/\H.next=H'.next:=by
 obtain⟨n1,n2,n3,n4,n5,n6⟩:=I.ne
 obtain⟨z,hz⟩:=h.hl
 have hge:=I.ge;have hlm:=I.lim
 refine⟨_,q0E hz (by omega) (by rw[z0T];exact hv),⟨?_, ?_,⟨z, ?_⟩, ?_,j0a h.st fun j p m e=>(h.ap j p m e).2.2.1,h.ap,h.lt⟩,fun i hi=>q0d (by omega),rfl⟩
 ·rw[q0d n2];exact h.hc
 ·obtain⟨z',h'⟩:=h.hn;exact⟨z',by rw[q0d n4];exact h'⟩
 ·rw[put_same,Z0y hv]
  congr 3
  funext u
  show(if u=v then(x:Int)else(σ.low u:Int))=((if u=v then x else σ.low u:Nat):Int)
  split<;>rfl
 ·rw[q0d (Ne.symm n6)];exact h.ho
theorem TSR.ldn(h:TSR H b jc jn jl jo n gc sc σ){v:Nat}(hv:v<n):Heap.ld H jn v=some (.int .i64 (σ.num v:Int)):=by
 obtain⟨z,hz⟩:=h.hn;rw[q0c hz];exact k0B hv
theorem TSR.ldl(h:TSR H b jc jn jl jo n gc sc σ){v:Nat}(hv:v<n):Heap.ld H jl v=some (.int .i64 (σ.low v:Int)):=by
 obtain⟨z,hz⟩:=h.hl;rw[q0c hz];exact k0B hv
theorem TSR.ldo(h:TSR H b jc jn jl jo n gc sc σ){v:Nat}(hv:v<n):Heap.ld H jo v=some (.int .i64 (σ.of v)):=by
 rw[q0c h.ho];exact k0B hv
theorem TSR.ldc(h:TSR H b jc jn jl jo n gc sc σ):Heap.ld H jc 0=some gc/\Heap.ld H jc 1=some (.slice jn 0 n)/\Heap.ld H jc 2=some (.slice jl 0 n)/\Heap.ld H jc 3=some (.slice jo 0 n)/\Heap.ld H jc 4=some sc/\Heap.ld H jc 5=some (.int .i64 (σ.c:Int))/\Heap.ld H jc 6=some (.int .i64 (σ.f:Int)):=by
 simp only[q0c h.hc];exact⟨rfl,rfl,rfl,rfl,rfl,rfl,rfl⟩
theorem j1h{M:Mach}{H0:Heap}{bb:Bool}{rows:List (Bool×List Int)}{F:Nat->Prop}(h:TSR H b jc jn jl jo n gc sc σ)(I:TIds M.lim b jc jn jl jo){v:Nat}(hv:v<n)(hF: ∀i,F i->i<b)(hf:FrB b H0 H)(hg:UC H0 F (uLs bb rows) [gc]){r:Bool×List Int}(hr:rows[v]? =some r)(hcb:σ.c<=1000000)(hsb:σ.st.length<=1000000):
  ∃H' sc' c39,f109 M (.ptr jc 0) (v:Int) H=f109_1 M (.ptr jc 0) (v:Int) c39 (r.2.length:Int) 0 H'/\TSR H' b jc jn jl jo n gc sc' (σ.enter v)/\FrB b H0 H'/\UC H0 F (uIs r.1 r.2) [c39]:=by
 obtain⟨n1,n2,n3,n4,n5,n6⟩:=I.ne
 have hge:=I.ge;have hlm:=I.lim
 obtain⟨zn,hn⟩:=h.hn
 obtain⟨zl,hl⟩:=h.hl
 have ho:=h.ho
 have hlt:=h.lt
 have l0:=h.ldc
 have e1:IntKind.wrap .i64 ((σ.c:Int)+1)=((σ.c+1:Nat):Int):=q0b (by omega)
 have s7:=q0E (lim:=M.lim) (x:= .int .i64 ((σ.c+1:Nat):Int)) h.hc (by omega) (o:=5) (by simp)
 generalize hH7:H.put jc (.cells 7 ([gc, .slice jn 0 n, .slice jl 0 n, .slice jo 0 n,sc, .int .i64 (σ.c:Int), .int .i64 (σ.f:Int)].set 5 (.int .i64 ((σ.c+1:Nat):Int))))=H7 at s7
 have g7:H7.get jc=some (.cells 7 [gc, .slice jn 0 n, .slice jl 0 n, .slice jo 0 n,sc, .int .i64 ((σ.c+1:Nat):Int), .int .i64 (σ.f:Int)]):=by rw[<-hH7,put_same];rfl
 have k7: ∀i,i≠jc->H7.get i=H.get i:=fun i hi=>by rw[<-hH7,q0d hi]
 have x7:H7.next=H.next:=by rw[<-hH7];rfl
 have o7:OInts H7 b sc (σ.st.reverse.map fun(x:Nat)=>(x:Int)):=by rw[<-hH7];exact j0a h.st fun j p m e=>(h.ap j p m e).1
 have s23:=q0E (lim:=M.lim) (x:= .int .i64 ((σ.c+1:Nat):Int)) (show H7.get jn=_ by rw[k7 jn (Ne.symm n1)];exact hn) (by omega) (o:=v) (by rw[z0T];exact hv)
 rw[Z0y hv]at s23
 generalize hH23:H7.put jn _=H23 at s23
 have k23: ∀i,i≠jn->H23.get i=H7.get i:=fun i hi=>by rw[<-hH23,q0d hi]
 have g23:H23.get jn=some (.cells zn (fc n fun u=>if u=v then((σ.c+1:Nat):Int)else(σ.num u:Int))):=by rw[<-hH23,put_same]
 have o23:OInts H23 b sc (σ.st.reverse.map fun(x:Nat)=>(x:Int)):=by rw[<-hH23];exact j0a o7 fun j p m e=>(h.ap j p m e).2.1
 have s25:=q0E (lim:=M.lim) (x:= .int .i64 ((σ.c+1:Nat):Int)) (show H23.get jl=_ by rw[k23 jl (Ne.symm n4),k7 jl (Ne.symm n2)];exact hl) (by omega) (o:=v) (by rw[z0T];exact hv)
 rw[Z0y hv]at s25
 generalize hH25:H23.put jl _=H25 at s25
 have k25: ∀i,i≠jl->H25.get i=H23.get i:=fun i hi=>by rw[<-hH25,q0d hi]
 have g25:H25.get jl=some (.cells zl (fc n fun u=>if u=v then((σ.c+1:Nat):Int)else(σ.low u:Int))):=by rw[<-hH25,put_same]
 have o25:OInts H25 b sc (σ.st.reverse.map fun(x:Nat)=>(x:Int)):=by rw[<-hH25];exact j0a o23 fun j p m e=>(h.ap j p m e).2.2.1
 have x25:H25.next=H.next:=by rw[<-hH25,<-hH23];exact x7
 have c25:H25.get jc=some (.cells 7 [gc, .slice jn 0 n, .slice jl 0 n, .slice jo 0 n,sc, .int .i64 ((σ.c+1:Nat):Int), .int .i64 (σ.f:Int)]):=by rw[k25 jc n2,k23 jc n1];exact g7
 obtain⟨q1,sc',H31,q2,q3,q4,q5⟩:=o25.append1 (lim:=M.lim) (by omega) (v:Int) (by simp;omega)
 have keep: ∀i,i<H25.next->(∀o m,sc≠ .slice i o m)->H31.get i=H25.get i:=q4.keep
 have nsc: ∀i,(i=jc\/i=jn\/i=jl\/i=jo\/i<b)-> ∀o m,sc≠ .slice i o m:=fun i hi o m e=>by
  obtain⟨a1,a2,a3,a4⟩:=h.ap i o m e
  rcases hi with g |g |g |g |g
  ·exact a1 g
  ·exact a2 g
  ·exact a3 g
  ·exact a4 g
  ·rcases h.st.2.2 with⟨e2,_⟩ |⟨i',o',cs,e2,e3,_⟩
   ·rw[e]at e2;cases e2
   ·rw[e]at e2;cases e2;omega
 have c31:H31.get jc=some (.cells 7 [gc, .slice jn 0 n, .slice jl 0 n, .slice jo 0 n,sc, .int .i64 ((σ.c+1:Nat):Int), .int .i64 (σ.f:Int)]):=by rw[keep jc (by omega) (nsc jc (.inl rfl))];exact c25
 have s34:=q0E (lim:=M.lim) (x:=sc') c31 (by omega) (o:=4) (by simp)
 generalize hH34:H31.put jc _=H34 at s34
 have k34: ∀i,i≠jc->H34.get i=H31.get i:=fun i hi=>by rw[<-hH34,q0d hi]
 have x31:H25.next<=H31.next:=q4.next
 have x34:H34.next=H31.next:=by rw[<-hH34];rfl
 have hsc': ∀i o m,sc'= .slice i o m->H.next<=i:=fun i o m e=>by
  rcases q5 with g |⟨i',o',m',g,g2⟩
  ·rw[g]at e;cases e
  ·rw[g]at e;cases e;omega
 have frb:FrB b H0 H34:=⟨by have:=hf.next;omega,fun i hi=>by
  rw[k34 i (by omega),keep i (by have:=hf.next;omega) (nsc i (.inr (.inr (.inr (.inr hi))))),k25 i (by omega),k23 i (by omega),k7 i (by omega)];exact hf.old i hi⟩
 have l34:Heap.ld H34 jc 0=some gc:=by rw[<-hH34,q0c (put_same _ _ _)];rfl
 obtain⟨i1,o1,c39,g1,g2,g3,g4⟩:=rdL (j0Y hg frb hF) hr
 have hg39:UC H0 F (uIs r.1 r.2) [c39]:=g4.mono ⟨fun _ h=>h,fun i hi=>(frb.old i (hF i hi)).symm⟩
 refine⟨H34,sc',c39, ?_,⟨?_,⟨zn, ?_⟩,⟨zl, ?_⟩, ?_, ?_,fun i o m e=> ?_,by omega⟩,frb,hg39⟩
 ·have l7a:Heap.ld H7 jc 1=some (.slice jn 0 n):=by rw[q0c g7];rfl
  have l7b:Heap.ld H7 jc 2=some (.slice jl 0 n):=by rw[q0c g7];rfl
  have l7c:Heap.ld H7 jc 5=some (.int .i64 ((σ.c+1:Nat):Int)):=by rw[q0c g7];rfl
  have l25:Heap.ld H25 jc 4=some sc:=by rw[q0c c25];rfl
  rw[Q1c]
  simp only[withP_ptr,Nat.zero_add,l0,oS,asI_int,e1,s7,l7a,l7b,l7c,q0j hv,s23,s25,l25,q1,q2,s34,l34,g1,g3,J0i g4]
 ·rw[<-hH34,put_same];rfl
 ·rw[k34 jn (Ne.symm n1),keep jn (by omega) (nsc jn (.inr (.inl rfl))),k25 jn n4,g23]
  congr 3
  funext u
  show(if u=v then((σ.c+1:Nat):Int)else(σ.num u:Int))=((if u=v then σ.c+1 else σ.num u:Nat):Int)
  split<;>rfl
 ·rw[k34 jl (Ne.symm n2),keep jl (by omega) (nsc jl (.inr (.inr (.inl rfl)))),g25]
  congr 3
  funext u
  show(if u=v then((σ.c+1:Nat):Int)else(σ.low u:Int))=((if u=v then σ.c+1 else σ.low u:Nat):Int)
  split<;>rfl
 ·rw[k34 jo (Ne.symm n3),keep jo (by omega) (nsc jo (.inr (.inr (.inr (.inl rfl))))),k25 jo (Ne.symm n6),k23 jo (Ne.symm n5),k7 jo (Ne.symm n3)]
  exact ho
 ·have e:((σ.enter v).st.reverse.map fun(x:Nat)=>(x:Int))=(σ.st.reverse.map fun(x:Nat)=>(x:Int))++[(v:Int)]:=by
   show((v::σ.st).reverse.map _)=_
   simp
  rw[e,<-hH34]
  exact j0a q3 fun j p m e=>by have:=hsc' j p m e;omega
 ·have:=hsc' i o m e;omega
theorem Q1U{M:Mach}{H0:Heap}(I:TIds M.lim b jc jn jl jo){v:Nat}:
  ∀(st:List Nat) (H:Heap) (sc:C) (σ:TS),σ.st=st->v∈st->(∀x∈st,x<n)->st.length<=1000000->σ.f<=1000000->FrB b H0 H->TSR H b jc jn jl jo n gc sc σ->
  ∃H' sc',f109_4 M (.ptr jc 0) (v:Int) H=some (.tuple [],H')/\FrB b H0 H'/\TSR H' b jc jn jl jo n gc sc' {σ with st:=(popTo v σ.f st σ.of).1,of:=(popTo v σ.f st σ.of).2,f:=σ.f+1}:=by
 obtain⟨n1,n2,n3,n4,n5,n6⟩:=I.ne
 have hge:=I.ge;have hlm:=I.lim
 intro st
 induction st with
 |nil=>intro H sc σ _ hv;cases hv
 |cons w st ih=>
  intro H sc σ hst hv hlt hlen hfb hf h
  have hwn:w<n:=hlt w (by simp)
  have hrev:(σ.st.reverse.map fun(x:Nat)=>(x:Int))=(st.reverse.map fun(x:Nat)=>(x:Int))++[(w:Int)]:=by rw[hst];simp
  have hll:(st.reverse.map fun(x:Nat)=>(x:Int)).length=st.length:=by simp
  have l0:=h.ldc
  have hst':=h.st
  rw[hrev]at hst'
  have hlenC:C.len sc=some (st.length+1):=by have:=hst'.ints.len;simpa using this
  obtain⟨q,r1,r2⟩:=hst'.ints.read (j:=st.length) (v:=(w:Int)) (by rw[List.getElem?_append_right (by omega),hll];simp)
  have e1:IntKind.wrap .i64 (((st.length+1:Nat):Int) - 1)=(st.length:Int):=by simp only[List.length_cons]at hlen;rw[q0e (by omega) (by omega)];omega
  obtain⟨i,o,cs,d1,d2,d3,d4,d5,d6⟩: ∃i o cs,sc= .slice i o (st.length+1)/\b<=i/\i<H.next/\H.get i=some (.cells 1 cs)/\o+(st.length+1)*1<=cs.length/\(cs.drop o).take ((st.length+1)*1)=(((st.reverse.map fun(x:Nat)=>(x:Int))++[(w:Int)]).map rowI).flatten:=by
   rcases hst'.2.2 with⟨_,e⟩ |⟨i,o,cs,e1,e2,e3,e4,e5,e6⟩
   ·simp at e
   ·have hl:(((st.reverse.map fun(x:Nat)=>(x:Int))++[(w:Int)]).map rowI).length=st.length+1:=by simp
    rw[hl]at e1 e5 e6
    exact⟨i,o,cs,e1,e2,e3,e4,e5,e6⟩
  have hsub:Heap.sub M.lim H 1 sc 0 (some (st.length:Int))=some (.slice i o st.length):=by
   rw[d1]
   unfold Heap.sub
   have hneg: ¬(0<(0:Nat)/\0<st.length+1/\M.lim<=i/\H.szBad i 1=true):=fun h=>Nat.lt_irrefl 0 h.1
   simp only[Option.getD_some]
   rw[if_neg (by simp),if_pos ⟨by omega,by omega,by omega⟩]
   simp
  have s17:=q0E (lim:=M.lim) (x:= .slice i o st.length) h.hc (by omega) (o:=4) (by simp)
  generalize hH17:H.put jc _=H17 at s17
  have g17:H17.get jc=some (.cells 7 [gc, .slice jn 0 n, .slice jl 0 n, .slice jo 0 n, .slice i o st.length, .int .i64 (σ.c:Int), .int .i64 (σ.f:Int)]):=by rw[<-hH17,put_same];rfl
  have k17: ∀j,j≠jc->H17.get j=H.get j:=fun j hj=>by rw[<-hH17,q0d hj]
  have ho:=h.ho
  have s26:=q0E (lim:=M.lim) (x:= .int .i64 (σ.f:Int)) (show H17.get jo=_ by rw[k17 jo (Ne.symm n3)];exact ho) (by omega) (o:=w) (by rw[z0T];exact hwn)
  rw[Z0y hwn]at s26
  generalize hH26:H17.put jo _=H26 at s26
  have k26: ∀j,j≠jo->H26.get j=H17.get j:=fun j hj=>by rw[<-hH26,q0d hj]
  have g26:H26.get jc=some (.cells 7 [gc, .slice jn 0 n, .slice jl 0 n, .slice jo 0 n, .slice i o st.length, .int .i64 (σ.c:Int), .int .i64 (σ.f:Int)]):=by rw[k26 jc n3];exact g17
  have x26:H26.next=H.next:=by rw[<-hH26,<-hH17];rfl
  have hij:=h.ap i o _ d1
  have gi:H26.get i=some (.cells 1 cs):=by rw[k26 i hij.2.2.2,k17 i hij.1];exact d4
  have hap: ∀i' o' m,(C.slice i o st.length)= .slice i' o' m->i'≠jc/\i'≠jn/\i'≠jl/\i'≠jo:=fun i' o' m e=>by cases e;exact hij
  have row: ∀l:List Int,(l.map rowI).flatten=l.map fun x=>C.int .i64 x:=fun l=>by
   induction l with
   |nil=>rfl
   |cons x l ih=>simp only[List.map_cons,List.flatten_cons,ih];rfl
  have o26:OInts H26 b (.slice i o st.length) (st.reverse.map fun(x:Nat)=>(x:Int)):=by
   refine⟨by rw[x26];exact h.st.1,fun r hr=>by obtain⟨x,_,rfl⟩:=List.mem_map.1 hr;rfl, .inr ⟨i,o,cs,by simp,d2,by omega,gi,by simp;omega, ?_⟩⟩
   rw[row]at d6⊢
   have:(cs.drop o).take st.length=(((cs.drop o).take ((st.length+1)*1))).take st.length:=by rw[List.take_take,Nat.min_eq_left (by omega)]
   have h2:((st.reverse.map fun(x:Nat)=>(x:Int)).map rowI).length*1=st.length:=by simp
   rw[h2,this,d6,List.map_append,List.take_append_of_le_length (by simp),List.take_of_length_le (by simp)]
  have frb:FrB b H0 H26:=⟨by rw[x26];exact hf.next,fun j hj=>by rw[k26 j (by omega),k17 j (by omega)];exact hf.old j hj⟩
  have lt:=h.lt
  let σ1:TS:={σ with st:=st,of:=fun u=>if u=w then(σ.f:Int)else σ.of u}
  have t26:TSR H26 b jc jn jl jo n gc (.slice i o st.length) σ1:=by
   refine⟨g26, ?_, ?_, ?_,o26,hap,by rw[x26];exact lt⟩
   ·obtain⟨z,hz⟩:=h.hn;exact⟨z,by rw[k26 jn n5,k17 jn (Ne.symm n1)];exact hz⟩
   ·obtain⟨z,hz⟩:=h.hl;exact⟨z,by rw[k26 jl n6,k17 jl (Ne.symm n2)];exact hz⟩
   ·rw[<-hH26,put_same]
  have l17a:Heap.ld H17 jc 3=some (.slice jo 0 n):=by rw[q0c g17];rfl
  have l17b:Heap.ld H17 jc 6=some (.int .i64 (σ.f:Int)):=by rw[q0c g17];rfl
  have l26:Heap.ld H26 jc 6=some (.int .i64 (σ.f:Int)):=by rw[q0c g26];rfl
  by_cases e:w=v
  ·subst e
   have e2:IntKind.wrap .i64 ((σ.f:Int)+1)=((σ.f+1:Nat):Int):=q0b (by omega)
   have s33:=q0E (lim:=M.lim) (x:= .int .i64 ((σ.f+1:Nat):Int)) g26 (by omega) (o:=6) (by simp)
   generalize hH33:H26.put jc _=H33 at s33
   refine⟨H33, .slice i o st.length, ?_,⟨by rw[<-hH33];exact frb.next,fun j hj=>by rw[<-hH33,q0d (by omega)];exact frb.old j hj⟩, ?_⟩
   ·rw[J0T]
    simp only[withP_ptr,Nat.zero_add,l0,oS,hlenC,e1,r1,r2,asI_int,hsub,s17,l17a,l17b,q0j hwn,s26,dY,iT,l26,e2,s33]
   ·have hp:popTo w σ.f (w::st) σ.of=(st,fun u=>if u=w then(σ.f:Int)else σ.of u):=by simp[popTo]
    rw[hp,<-hH33]
    refine⟨by rw[put_same];rfl, ?_, ?_, ?_,j0a o26 fun j p m e=>(hap j p m e).1,hap,t26.lt⟩
    ·obtain⟨z,hz⟩:=t26.hn;exact⟨z,by rw[q0d (Ne.symm n1)];exact hz⟩
    ·obtain⟨z,hz⟩:=t26.hl;exact⟨z,by rw[q0d (Ne.symm n2)];exact hz⟩
    ·rw[q0d (Ne.symm n3)];exact t26.ho
  ·have hvs:v∈st:=(mC.1 hv).resolve_left fun e'=>e e'.symm
   obtain⟨H',sc',z1,z2,z3⟩:=ih H26 (.slice i o st.length) σ1 rfl hvs (fun x hx=>hlt x (by simp[hx])) (by simp only[List.length_cons]at hlen;omega) hfb frb t26
   refine⟨H',sc', ?_,z2, ?_⟩
   ·rw[J0T]
    have hne: ¬((w:Int)=(v:Int)):=by omega
    simp only[withP_ptr,Nat.zero_add,l0,oS,hlenC,e1,r1,r2,asI_int,hsub,s17,l17a,l17b,q0j hwn,s26,hne,dF,bF,iF,z1]
   ·have hp:popTo v σ.f (w::st) σ.of=popTo v σ.f st (fun u=>if u=w then(σ.f:Int)else σ.of u):=by simp[popTo,e]
    rw[hp]
    exact z3
end
def nxL(rows:List (Bool×List Int))(x:Nat):List Nat:=(rows.getD x (false,[])).2.map Int.toNat
theorem Q0p{n:Nat}{rows:List (Bool×List Int)}(hT:Table n rows): ∀x,∀y∈nxL rows x,y<n:=fun x y hy=>by
 obtain⟨z,h1,h2⟩:=List.mem_map.1 hy
 rw[lG]at h1
 cases e:rows[x]? with
 |none=>rw[e]at h1;cases h1
 |some r=>
  rw[e]at h1
  have:=hT.2.1 r (List.mem_of_getElem? e) z h1
  omega
theorem k1X{rows:List (Bool×List Int)}{x:Nat}{r:Bool×List Int}(h:rows[x]? =some r):nxL rows x=r.2.map Int.toNat:=by simp[nxL,lG,h]
theorem Y0B: ∀(l:List Nat) (x:Nat),x∈l->x<=l.sum
 |y::l,x,h=>by
  rw[List.sum_cons]
  rcases mC.1 h with e |e
  ·omega
  ·have:=Y0B l x e;omega
theorem Z0R{n:Nat}{rows:List (Bool×List Int)}(hT:Table n rows){x:Nat}{r:Bool×List Int}(h:rows[x]? =some r):r.2.length<=1000000:=
 nT (Y0B _ _ (List.mem_map.2 ⟨r,List.mem_of_getElem? h,rfl⟩)) hT.2.2
structure TB (n:Nat) (σ:TS):Prop where
 c:σ.c+rest n σ<=n
 f:σ.f<=σ.c
 st:σ.st.length<=σ.c
 lt: ∀x∈σ.st,x<n
theorem TB.on{n:Nat}{σ σ':TS}(h:TB n σ)(k:TNum n σ σ'):TB n σ':=⟨k.c h.c,by have:=k.f;have:=h.f;omega,k.st h.st,k.lt h.lt⟩
theorem Y0C(a b:Nat):(if(b:Int)<(a:Int)then(b:Int)else(a:Int))=((min a b:Nat):Int):=by
 split<;>omega
section
variable{M:Mach}{H0:Heap}{b jc jn jl jo n:Nat}{gc:C}{bb:Bool}{rows:List (Bool×List Int)}{F:Nat->Prop}
variable(I:TIds M.lim b jc jn jl jo)(hF: ∀i,F i->i<b)(hg:UC H0 F (uLs bb rows) [gc])(hT:Table n rows)(hn:n<=1000000)
include I hF hg hT hn
def VisRun(M:Mach)(H0:Heap)(b jc jn jl jo n:Nat)(gc:C)(rec:TS->Nat->Option TS):Prop:=
 ∀(σ σ':TS) (v:Nat) (H:Heap) (sc:C),rec σ v=some σ'->σ.num v=0->v<n->TB n σ->FrB b H0 H->TSR H b jc jn jl jo n gc sc σ->
  ∃H' sc' x,f109 M (.ptr jc 0) (v:Int) H=some (x,H')/\FrB b H0 H'/\TSR H' b jc jn jl jo n gc sc' σ'/\TNum n σ σ'
theorem z1j{rec:TS->Nat->Option TS}(hrec:VisRun M H0 b jc jn jl jo n gc rec){v:Nat}(hv:v<n){b0:Bool}{l:List Int}{c39:C}(h39:UC H0 F (uIs b0 l) [c39])(hl: ∀y∈l,0<=y/\y<(n:Int))(hll:l.length<=1000000):
  ∀(d i:Nat) (σ σ2 σ':TS) (H:Heap) (sc:C),i+d=l.length->visL rec v ((l.drop i).map Int.toNat) σ=some σ2->
  (if σ2.low v<σ2.num v then some σ2 else if v∈σ2.st then some (σ2.close v)else none)=some σ'->TB n σ->FrB b H0 H->TSR H b jc jn jl jo n gc sc σ->
  ∃H' sc' x,f109_1 M (.ptr jc 0) (v:Int) c39 (l.length:Int) (i:Int) H=some (x,H')/\FrB b H0 H'/\TSR H' b jc jn jl jo n gc sc' σ':=by
 intro d
 induction d with
 |zero=>
  intro i σ σ2 σ' H sc hi h1 h2 tb f h
  rw[dL (by omega)]at h1
  simp only[List.map_nil,visL]at h1
  cases h1
  obtain⟨l0,l1,l2,l3,l4,l5,l6⟩:=h.ldc
  have hlt:((σ.low v:Int)<(σ.num v:Int))↔σ.low v<σ.num v:=Int.ofNat_lt
  rw[J0R]
  simp only[show¬((i:Int)<(l.length:Int)) by omega,dF,bF,iF,withP_ptr,Nat.zero_add,l1,l2,oS,q0j hv,h.ldl hv,h.ldn hv,asI_int]
  by_cases hc:σ.low v<σ.num v
  ·rw[if_pos hc]at h2
   cases h2
   simp only[hlt.2 hc,dY,iT]
   exact⟨H,sc,_,rfl,f,h⟩
  ·rw[if_neg hc]at h2
   have hc': ¬((σ.low v:Int)<(σ.num v:Int)):=fun e=>hc (hlt.1 e)
   simp only[hc',dF,bF,iF]
   split at h2
   ·rename_i hm
    cases h2
    have hcn:σ.c<=n:=by have:=tb.c;omega
    obtain⟨H',sc',z1,z2,z3⟩:=Q1U I (M:=M) (H0:=H0) (n:=n) (gc:=gc) (v:=v) σ.st H sc σ rfl hm tb.lt (by have:=tb.st;omega) (by have:=tb.f;omega) f h
    exact⟨H',sc',_,z1,z2,z3⟩
   ·cases h2
 |succ d ih=>
  intro i σ σ2 σ' H sc hi h1 h2 tb f h
  have hlt:i<l.length:=by omega
  have hgi:l[i]? =some l[i]:=q0a hlt
  obtain⟨w0,w1⟩:=hl _ (lM hlt)
  obtain⟨w,hw⟩:=iZ w0
  have hwn:w<n:=by omega
  obtain⟨i2,o2,k1,k2,k3⟩:=rdN (j0Y h39 f hF) hgi
  rw[hw]at k3
  obtain⟨l0,l1,l2,l3,l4,l5,l6⟩:=h.ldc
  rw[List.drop_eq_getElem_cons hlt,hw]at h1
  simp only[List.map_cons,iN,visL]at h1
  have eI:IntKind.wrap .i64 ((i:Int)+1)=((i+1:Nat):Int):=q0b (by omega)
  rw[J0R]
  simp only[show((i:Int)<(l.length:Int)) by omega,dY,iT,k1,k3,asI_int,withP_ptr,Nat.zero_add,l1,oS,q0j hwn,h.ldn hwn]
  split at h1
  ·rename_i h0
   obtain⟨σ1,g1,g2⟩:=oB.1 h1
   obtain⟨H1,sc1,x,z1,z2,z3,z4⟩:=hrec σ σ1 w H sc g1 h0 hwn tb f h
   obtain⟨H2,y1,y2,y3,y4⟩:=z3.setLow I hv (min (σ1.low v) (σ1.low w))
   obtain⟨m0,m1,m2,m3,m4,m5,m6⟩:=z3.ldc
   have f2:FrB b H0 H2:=⟨by rw[<-y4];exact z2.next,fun i hi=>by rw[y3 i hi];exact z2.old i hi⟩
   obtain⟨H',sc',x',r1,r2,r3⟩:=ih (i+1) _ σ2 σ' H2 sc1 (by omega) g2 h2 ((tb.on z4).on (TNum.setLow n σ1 _ _)) f2 y2
   refine⟨H',sc',x', ?_,r2,r3⟩
   have e0:((σ.num w:Int)=0):=by rw[h0];rfl
   simp only[e0,dY,iT,z1,oS,m2,q0j hv,q0j hwn,z3.ldl hv,z3.ldl hwn,asI_int,Y0C,y1,w0C,eI,r1]
  ·rename_i h0
   have e0: ¬((σ.num w:Int)=0):=by omega
   simp only[e0,dF,bF,iF,l3,oS,q0j hwn,h.ldo hwn,asI_int]
   split at h1
   ·rename_i h3
    obtain⟨H2,y1,y2,y3,y4⟩:=h.setLow I hv (min (σ.low v) (σ.num w))
    have f2:FrB b H0 H2:=⟨by rw[<-y4];exact f.next,fun i hi=>by rw[y3 i hi];exact f.old i hi⟩
    obtain⟨H',sc',x',r1,r2,r3⟩:=ih (i+1) _ σ2 σ' H2 sc (by omega) h1 h2 (tb.on (TNum.setLow n σ _ _)) f2 y2
    refine⟨H',sc',x', ?_,r2,r3⟩
    simp only[h3,dY,iT,l1,l2,oS,q0j hv,q0j hwn,h.ldl hv,h.ldn hwn,asI_int,Y0C,y1,J0S,w0C,eI,r1]
   ·rename_i h3
    obtain⟨H',sc',x',r1,r2,r3⟩:=ih (i+1) _ σ2 σ' H sc (by omega) h1 h2 tb f h
    refine⟨H',sc',x', ?_,r2,r3⟩
    simp only[h3,dF,bF,iF,J0S,w0C,eI,r1]
theorem Y0D: ∀k:Nat,VisRun M H0 b jc jn jl jo n gc (vis (nxL rows) k)
 | 0=>fun σ σ' v H sc h=>by simp[vis]at h
 |k+1=>fun σ σ' v H sc h h0 hv tb f hs=>by
  have num:=(K0i (Q0p hT) (k+1) σ v σ' h0 hv h).1
  simp only[vis]at h
  obtain⟨σ2,g1,g2⟩:=oB.1 h
  have hvr:v<rows.length:=by rw[hT.1];exact hv
  have hr:rows[v]? =some rows[v]:=q0a hvr
  have hcn:σ.c<=n:=by have:=tb.c;omega
  obtain⟨H1,sc1,c39,z1,z2,z3,z4⟩:=j1h hs I hv hF f hg hr (by omega) (by have:=tb.st;omega)
  have hrl:rest n (σ.enter v)<rest n σ:=J0y (fun x hx=>by
   show(if x=v then _ else σ.num x)≠0
   split
   ·omega
   ·exact hx) hv h0 (by show(if v=v then _ else _)≠0;rw[if_pos rfl];omega)
  have tb1:TB n (σ.enter v):=by
   refine⟨?_, ?_, ?_, ?_⟩
   ·show σ.c+1+_<=n;have:=tb.c;omega
   ·show σ.f<=σ.c+1;have:=tb.f;omega
   ·show(v::σ.st).length<=σ.c+1;have:=tb.st;simp only[List.length_cons];omega
   ·intro x hx
    rcases mC.1 (show x∈v::σ.st from hx)with g |g
    ·rw[g];exact hv
    ·exact tb.lt x g
  rw[k1X hr]at g1
  have hrow:=hT.2.1 _ (List.mem_of_getElem? hr)
  obtain⟨H',sc',x,r1,r2,r3⟩:=z1j I hF hg hT hn (Y0D k) hv z4 hrow (Z0R hT hr) rows[v].2.length 0 (σ.enter v) σ2 σ' H1 sc1 (by omega) (by rw[List.drop_zero];exact g1) g2 tb1 z3 z2
  exact⟨H',sc',x,by rw[z1];exact r1,r2,r3,num⟩
theorem w1M{k:Nat}: ∀(d i:Nat) (σ σ':TS) (H:Heap) (sc:C),i+d=n->visAll (nxL rows) k ((List.range n).drop i) σ=some σ'->TB n σ->FrB b H0 H->TSR H b jc jn jl jo n gc sc σ->
  ∃H' sc',f93_1 M (.ptr jc 0) (n:Int) (i:Int) H=some (.c (.slice jo 0 n),H')/\FrB b H0 H'/\TSR H' b jc jn jl jo n gc sc' σ':=by
 intro d
 induction d with
 |zero=>
  intro i σ σ' H sc hi h1 tb f h
  rw[dL (by rw[List.length_range];omega)]at h1
  simp only[visAll]at h1
  cases h1
  obtain⟨l0,l1,l2,l3,l4,l5,l6⟩:=h.ldc
  rw[W0E]
  simp only[show¬((i:Int)<(n:Int)) by omega,dF,bF,iF,withP_ptr,Nat.zero_add,l3,oS]
  exact⟨H,sc,rfl,f,h⟩
 |succ d ih=>
  intro i σ σ' H sc hi h1 tb f h
  have hin:i<n:=by omega
  have eI:IntKind.wrap .i64 ((i:Int)+1)=((i+1:Nat):Int):=q0b (by omega)
  obtain⟨l0,l1,l2,l3,l4,l5,l6⟩:=h.ldc
  rw[List.drop_eq_getElem_cons (by rw[List.length_range];exact hin),List.getElem_range]at h1
  simp only[visAll]at h1
  rw[W0E]
  simp only[show((i:Int)<(n:Int)) by omega,dY,iT,withP_ptr,Nat.zero_add,l1,oS,q0j hin,h.ldn hin,asI_int]
  split at h1
  ·rename_i h0
   obtain⟨σ1,g1,g2⟩:=oB.1 h1
   obtain⟨H1,sc1,x,z1,z2,z3,z4⟩:=Y0D I hF hg hT hn k σ σ1 i H sc g1 h0 hin tb f h
   obtain⟨H',sc',r1,r2,r3⟩:=ih (i+1) _ σ' H1 sc1 (by omega) g2 (tb.on z4) z2 z3
   refine⟨H',sc', ?_,r2,r3⟩
   have e0:((σ.num i:Int)=0):=by rw[h0];rfl
   simp only[e0,dY,iT,z1,oS,W0F,eI,r1]
  ·rename_i h0
   have e0: ¬((σ.num i:Int)=0):=by omega
   obtain⟨H',sc',r1,r2,r3⟩:=ih (i+1) _ σ' H sc (by omega) h1 tb f h
   refine⟨H',sc', ?_,r2,r3⟩
   simp only[e0,dF,bF,iF,W0F,eI,r1]
end
theorem W0X{n:Int}(h0:0<=n)(h1:n<18446744073709551616):IntKind.wrap .u64 n=n:=IntWalk.u64_in n ⟨h0,by omega⟩
theorem k1l{n:Nat}(h:n<4294967296):shI .shr .u64 (n:Int) 32=0:=by
 unfold shI
 show(n:Int).fdiv (2 ^ (min (32:Int).toNat 64))=0
 rw[show min (32:Int).toNat 64=32 from rfl,Int.fdiv_eq_ediv_of_nonneg _ (by decide)]
 exact Int.ediv_eq_zero_of_lt (by omega) (by omega)
theorem Q1J{n:Nat}(h:n<4294967296):bitI .and .u64 (n:Int) 4294967295=(n:Int):=by
 have h1:BitVec.ofInt 64 (n:Int)=BitVec.ofNat 64 n:=by simp
 unfold bitI
 show IntKind.wrap .u64 (((BitVec.ofInt 64 (n:Int))&&& (BitVec.ofNat 64 4294967295)).toNat:Int)=_
 rw[h1,BitVec.toNat_and,BitVec.toNat_ofNat,BitVec.toNat_ofNat,Nat.mod_eq_of_lt (show n<2 ^ 64 by omega),Nat.mod_eq_of_lt (show 4294967295<2 ^ 64 by omega),
  show 4294967295=2 ^ 32 - 1 from rfl,Nat.and_two_pow_sub_one_eq_mod,Nat.mod_eq_of_lt (by omega)]
 exact W0X (by omega) (by omega)
theorem k1m{M:YM}{n:Nat}(h:n<=1000000):y110 M 1 (n:Int)=some (.tup [.c (.int .u64 0), .c (.int .u64 (n:Int))]):=by
 have s1:shI .shr .u64 1 32=0:=rfl
 have a1:bitI .and .u64 1 4294967295=1:=rfl
 have s0:shI .shr .u64 0 32=0:=rfl
 have a0:bitI .and .u64 0 4294967295=0:=rfl
 have w0:IntKind.wrap .u64 0=0:=rfl
 have wn:IntKind.wrap .u64 (n:Int)=(n:Int):=W0X (by omega) (by omega)
 rw[Y0L,Y0M]
 simp only[s1,a1,k1l (show n<4294967296 by omega),Q1J (show n<4294967296 by omega),Int.zero_mul,Int.mul_zero,Int.one_mul,w0,wn,Int.add_zero,Int.zero_add,s0,a0]
 rfl
theorem k0S: ∀(x y P S:List C),x.length=y.length->splice (P++y++S) P.length x=P++x++S
 | [],y,P,S,h=>by
  have:=List.eq_nil_of_length_eq_zero h.symm;subst this;rfl
 |c::x,[],P,S,h=>by simp at h
 |c::x,d::y,P,S,h=>by
  simp only[splice]
  have e:(P++d::y++S).set P.length c=(P++[c])++y++S:=by simp
  rw[e]
  have:=k0S x y (P++[c]) S (by simpa using h)
  simp only[List.length_append,List.length_cons,List.length_nil]at this
  rw[this];simp
theorem k1n{M:Mach}{i N:Nat}{v:C}(hi:M.lim<=i)(hN:N<=1000000): ∀(F n:Nat) (cs:List C) (H:Heap),N<=n+F->1<=n->n<=N->H.get i=some (.cells 1 cs)->cs.length=N->cs.take n=List.replicate n v->
  ∃H',f95_3 M (.slice i 0 N) (n:Int) H=some (.c (.slice i 0 N),H')/\H'.next=H.next/\(∀j,j≠i->H'.get j=H.get j)/\H'.get i=some (.cells 1 (List.replicate N v)):=by
 intro F
 induction F with
 |zero=>
  intro n cs H hF h1 h2 hg hl ht
  obtain rfl:n=N:=by omega
  refine⟨H, ?_,rfl,fun _ _=>rfl, ?_⟩
  ·rw[z0F];simp
  ·rw[hg,<-ht,List.take_of_length_le (by omega)]
 |succ F ih=>
  intro n cs H hF h1 h2 hg hl ht
  by_cases hn:n=N
  ·subst hn
   refine⟨H, ?_,rfl,fun _ _=>rfl, ?_⟩
   ·rw[z0F];simp
   ·rw[hg,<-ht,List.take_of_length_le (by omega)]
  ·have hbad:H.szBad i 1=false:=by simp[Heap.szBad,hg]
   have hnn: ¬(M.lim<=i/\H.szBad i 1=true):=by rw[hbad];simp
   have s1:Heap.sub M.lim H 1 (.slice i 0 N) (n:Int) none=some (.slice i n (N - n)):=by
    simp only[Heap.sub,hbad,bF,and_false,iF,Option.getD_none]
    rw[if_pos (by omega)]
    simp
   have s2:Heap.sub M.lim H 1 (.slice i 0 N) 0 (some (n:Int))=some (.slice i 0 n):=by
    simp only[Heap.sub,hbad,bF,and_false,iF,Option.getD_some]
    rw[if_pos (by omega)]
    simp
   have s3:Heap.cellsOf H 1 (.slice i 0 n)=some (List.replicate n v):=by
    simp only[Heap.cellsOf,Heap.ldN,hg]
    rw[if_pos (by omega)]
    simp[ht]
   let m:=Nat.min n (N - n)
   have hm:m=Nat.min n (N - n):=rfl
   have hm1:m<=n:=Nat.min_le_left _ _
   have hm2:m<=N - n:=Nat.min_le_right _ _
   have hm3:1<=m:=by rw[hm];exact Nat.le_min.2 ⟨h1,by omega⟩
   have s4:Heap.copy M.lim H 1 (.slice i n (N - n)) (List.replicate n v) n=some (m,H.put i (.cells 1 (splice cs n (List.replicate m v)))):=by
    have htk:(List.replicate n v).take (Nat.min n (N - n)*1)=List.replicate m v:=by rw[Nat.mul_one,List.take_replicate,<-hm,Nat.min_eq_left hm1]
    simp only[Heap.copy,htk,Heap.st,hg]
    rw[if_pos ⟨hi,by simp;omega⟩]
    rfl
   have hsp:splice cs n (List.replicate m v)=List.replicate n v++List.replicate m v++cs.drop (n+m):=by
    have e:cs=List.replicate n v++(cs.drop n).take m++cs.drop (n+m):=by
     rw[<-ht,<-List.drop_drop,List.append_assoc,List.take_append_drop,List.take_append_drop]
    have:=k0S (List.replicate m v) ((cs.drop n).take m) (List.replicate n v) (cs.drop (n+m)) (by simp;omega)
    rw[List.length_replicate,<-e]at this
    exact this
   obtain⟨H',b1,b2,b3,b4⟩:=ih (n+m) (splice cs n (List.replicate m v)) (H.put i (.cells 1 (splice cs n (List.replicate m v)))) (by omega) (by omega) (by omega) (put_same _ _ _) (by rw[q0G];exact hl) (by
    rw[hsp,List.replicate_append_replicate,List.take_append_of_le_length (by simp),List.take_of_length_le (by simp)])
   have hw:IntKind.wrap .i64 ((n:Int)+((m:Nat):Int))=((n+m:Nat):Int):=by rw[q0e (by omega) (by omega)];simp
   refine⟨H', ?_,b2,fun j hj=>by rw[b3 j hj,q0d hj],b4⟩
   rw[z0F]
   simp only[len_slice,oS,show((n:Int)<(N:Int)) by omega,dY,iT,s1,s2,s3,s4,hw]
   exact b1
section
variable{lim:Nat}{M:YM}(hM:CallsY lim M.ext)
include hM
theorem k1o{n:Nat}(h:n<=1000000){H:Heap}{F:Nat->Prop}(hl:lim<=H.next)(hF: ∀i,F i->i<H.next): ∃H',f110 (MH lim) 1 (n:Int) H=some (.tuple [.c (.int .u64 0), .c (.int .u64 (n:Int))],H')/\Grow H H':=by
 have hr:ycall M 110 [.c (.int .u64 1), .c (.int .u64 (n:Int))]=some (.tup [.c (.int .u64 0), .c (.int .u64 (n:Int))]):=k1m (M:=M) h
 obtain⟨v,H',F',k1,k2,k3,_,_,_,k4⟩:=(j0X (vext:=awExt 8) (yext:=M.ext) (prog:=progOf 8 prog true) (lim:=lim) k0p hM) 110 _ _ hr H F [.c (.int .u64 1), .c (.int .u64 (n:Int))] hl hF (w1q ⟨rfl,rfl,rfl⟩ ⟨rfl,rfl,rfl⟩)
 refine⟨H', ?_,⟨k2,k3⟩⟩
 obtain⟨vs,rfl,v1,vs1,rfl,⟨_,u1⟩,v2,vs2,rfl,⟨_,u2⟩,e⟩:=k4
 cases e
 rw[u1.c_eq,u2.c_eq]at k1
 exact k1
omit hM in
theorem J0m(n:Nat)(x:C):(List.replicate n [x]).flatten=List.replicate n x:=by
 induction n with
 |zero=>rfl
 |succ n ih=>simp[List.replicate_succ]
theorem w1r{H:Heap}{c:C}{v:Int}{n:Nat}(h:Ints H c [v])(h1:n<=1000000)(hl:lim<=H.next): ∃j H',f95 (MH lim) c (n:Int) H=some (.c (.slice j 0 n),H')/\Grow H H'/\H.next<=j/\j<H'.next/\H'.get j=some (.cells 1 (List.replicate n (.int .i64 v))):=by
 have m3:IntKind.wrap .u64 (n:Int)=(n:Int):=W0X (by omega) (by omega)
 have m4:IntKind.wrap .i64 (n:Int)=(n:Int):=q0e (by omega) (by omega)
 have hlen:C.len c=some 1:=h.len
 have w1:IntKind.wrap .u64 ((1:Nat):Int)=1:=rfl
 obtain⟨H1,p1,p2⟩:=k1o hM h1 (H:=H) (F:=fun _=>False) hl (fun _ h=>h.elim)
 have hl1:lim<=H1.next:=nT hl p2.next
 have h':Ints H1 c [v]:=h.grow p2
 have f1:f95 (MH lim) c (n:Int) H=f95_2 (MH lim) c (n:Int) H1:=by
  rw[Z1t,z1C]
  simp only[show¬((n:Int)<0) by omega,dF,bF,iF,hlen,oS,w1,m3,p1,ext_tuple,List.getElem?_cons_zero,List.getElem?_cons_succ,asC_c,asI_int]
  simp only[show¬((0:Int)<0) by omega,show¬((9223372036854775807:Int)<(n:Int)) by omega,dF,iT,oS,bF,iF]
 rw[f1,z1D]
 have hc2:(H1.alloc (.cells 1 (List.replicate n [C.int .i64 0]).flatten)).cellsOf 1 c=some [.int .i64 v]:=by
  have:=(h'.grow (.alloc H1 (.cells 1 (List.replicate n [C.int .i64 0]).flatten)))
  have h2:=Sl.cellsOf this
  simpa[rowI]using h2
 simp only[m4,show(0:Int)<=(n:Int)/\(n:Int)<=2 ^ 36 by omega,and_self,iT,iN,hc2,hlen,oS]
 have hget:(H1.alloc (.cells 1 (List.replicate n [C.int .i64 0]).flatten)).get H1.next=some (.cells 1 (List.replicate n (C.int .i64 0))):=by rw[alloc_new,J0m]
 have hcp:Heap.copy (MH lim).lim (H1.alloc (.cells 1 (List.replicate n [C.int .i64 0]).flatten)) 1 (.slice H1.next 0 n) [.int .i64 v] 1=some (Nat.min 1 n,(H1.alloc (.cells 1 (List.replicate n [C.int .i64 0]).flatten)).put H1.next (.cells 1 (splice (List.replicate n (C.int .i64 0)) 0 ([C.int .i64 v].take (Nat.min 1 n))))):=by
  simp only[Heap.copy,Heap.st,hget,Nat.mul_one]
  have hle:([C.int .i64 v].take (Nat.min 1 n)).length<=n:=by rw[List.length_take];exact nT (Nat.min_le_left _ _) (Nat.min_le_right _ _)
  rw[if_pos ⟨hl1,by rw[List.length_replicate,Nat.zero_add];exact hle⟩]
  rfl
 simp only[hcp,oS]
 have n1:=p2.next
 by_cases hk0:n=0
 ·subst hk0
  refine⟨_,_,by rw[z0F];rfl,p2.trans ⟨by simp,fun j hj=>by rw[q0d (by omega),q0g hj]⟩,n1,by simp,by rw[put_same];rfl⟩
 ·have hmin:Nat.min 1 n=1:=Nat.min_eq_left (by omega)
  obtain⟨k',rfl⟩: ∃k',n=k'+1:=⟨n - 1,by omega⟩
  obtain⟨H',b1,b2,b3,b4⟩:=k1n (M:=MH lim) (v:=C.int .i64 v) hl1 (N:=k'+1) (by omega) (k'+1) 1 (splice (List.replicate (k'+1) (C.int .i64 0)) 0 ([C.int .i64 v].take (Nat.min 1 (k'+1)))) ((H1.alloc (.cells 1 (List.replicate (k'+1) [C.int .i64 0]).flatten)).put H1.next (.cells 1 (splice (List.replicate (k'+1) (C.int .i64 0)) 0 ([C.int .i64 v].take (Nat.min 1 (k'+1)))))) (by omega) (by omega) (by omega) (put_same _ _ _) (by rw[q0G];simp) (by rw[hmin];simp[splice,List.replicate_succ])
  rw[hmin]at b1⊢
  exact⟨_,H',b1,p2.trans ⟨by rw[b2];simp,fun j hj=>by rw[b3 j (by omega),q0d (by omega),q0g hj]⟩,n1,by rw[b2];simp,b4⟩
omit hM in
theorem w0s(n:Nat)(x:Int):fc n (fun _=>x)=List.replicate n (.int .i64 x):=by
 induction n with
 |zero=>rfl
 |succ n ih=>
  rw[fc,List.range_succ,List.map_append,List.replicate_succ']
  exact congrArg (· ++[C.int .i64 x]) ih
theorem Z1Q{H:Heap}{F:Nat->Prop}{g:C}{bb:Bool}{rows:List (Bool×List Int)}{n:Nat}(hg:UC H F (uLs bb rows) [g])(hl:lim<=H.next)(hF: ∀i,F i->i<H.next)(hT:Table n rows)(hn:n<=1000000){σ:TS}(hσ:visAll (nxL rows) n (List.range n) TS.start=some σ):
  ∃j H',f93 (MH lim) g H=some (.c (.slice j 0 n),H')/\Grow H H'/\H.next<=j/\j<H'.next/\H'.get j=some (.cells 1 (fc n σ.of)):=by
 have hk:C.len g=some n:=by have:=UC.lenC hg;rw[<-hT.1];simpa using this
 have o1:Ints (H.alloc (.cells 1 [.int .i64 (-1)])) (.slice H.next 0 1) [-1]:=⟨fun r hr=>by obtain⟨x,_,rfl⟩:=List.mem_map.1 hr;rfl, .inr ⟨H.next,0,1,_,rfl,by simp,alloc_new _ _,by simp,rfl⟩⟩
 obtain⟨j,H5,q1,q2,q3,q4,q5⟩:=w1r hM o1 hn (by simp;omega)
 have hn5:=q2.next
 simp only[alloc_next]at hn5 q3
 have hg5:Grow H H5:=(Grow.alloc H _).trans q2
 generalize hH7:H5.alloc (.cells 1 (List.replicate n [C.int .i64 0]).flatten)=H7
 have g7:H7.get H5.next=some (.cells 1 (fc n fun _=>0)):=by rw[<-hH7,alloc_new,J0m,w0s]
 have k7: ∀i,i<H5.next->H7.get i=H5.get i:=fun i hi=>by rw[<-hH7,q0g hi]
 have x7:H7.next=H5.next+1:=by rw[<-hH7,alloc_next]
 generalize hH8:H7.alloc (.cells 1 (List.replicate n [C.int .i64 0]).flatten)=H8
 have g8:H8.get H7.next=some (.cells 1 (fc n fun _=>0)):=by rw[<-hH8,alloc_new,J0m,w0s]
 have k8: ∀i,i<H7.next->H8.get i=H7.get i:=fun i hi=>by rw[<-hH8,q0g hi]
 have x8:H8.next=H7.next+1:=by rw[<-hH8,alloc_next]
 generalize hH9:H8.alloc (.cells 7 [g, .slice H5.next 0 n, .slice H7.next 0 n, .slice j 0 n, .nilSlice, .int .i64 0, .int .i64 0])=H9
 have g9:H9.get H8.next=some (.cells 7 [g, .slice H5.next 0 n, .slice H7.next 0 n, .slice j 0 n, .nilSlice, .int .i64 0, .int .i64 0]):=by rw[<-hH9,alloc_new]
 have k9: ∀i,i<H8.next->H9.get i=H8.get i:=fun i hi=>by rw[<-hH9,q0g hi]
 have x9:H9.next=H8.next+1:=by rw[<-hH9,alloc_next]
 have f9:FrB H.next H H9:=⟨by omega,fun i hi=>by rw[k9 i (by omega),k8 i (by omega),k7 i (by omega)];exact hg5.keep i hi⟩
 have I:TIds (MH lim).lim H.next H8.next H5.next H7.next j:=⟨hl,⟨by omega,by omega,by omega,by omega⟩,⟨by omega,by omega,by omega,by omega,by omega,by omega⟩⟩
 have T:TSR H9 H.next H8.next H5.next H7.next j n g .nilSlice TS.start:=by
  refine⟨g9,⟨1, ?_⟩,⟨1, ?_⟩, ?_,Own.nil (by omega) 1,fun i o m e=>(by cases e),⟨by omega,by omega,by omega,by omega⟩⟩
  ·rw[k9 _ (by omega),k8 _ (by omega)];exact g7
  ·rw[k9 _ (by omega)];exact g8
  ·rw[k9 _ (by omega),k8 _ (by omega),k7 _ (by omega),q5,<-w0s];rfl
 have tb:TB n TS.start:=by
  refine⟨?_,nR _,nR _,fun x hx=>(by cases hx)⟩
  show 0+rest n TS.start<=n
  unfold rest
  have:=List.length_filter_le (fun w=>decide (TS.start.num w=0)) (List.range n)
  rw[List.length_range]at this
  omega
 obtain⟨H',sc',r1,r2,r3⟩:=w1M I hF hg hT hn (k:=n) n 0 TS.start σ H9 .nilSlice (by omega) (by rw[List.drop_zero];exact hσ) tb f9 T
 refine⟨j,H', ?_,⟨r2.next,r2.old⟩,by omega,r3.lt.2.2.2,r3.ho⟩
 rw[Z1s]
 simp only[hk,oS,q1,asC_c,show(0:Int)<=(n:Int)/\(n:Int)<=2 ^ 36 by omega,and_self,iT,iN,hH7,hH8,hH9]
 exact r1
end
theorem q0J{n:Nat}{rows:List (Bool×List Int)}(hT:Table n rows){x y:Nat}:y∈nxL rows x↔nxT rows x y:=by
 unfold nxL nxT
 constructor
 ·intro h
  obtain⟨z,h1,h2⟩:=List.mem_map.1 h
  have hz:0<=z:=by
   rw[lG]at h1
   cases e:rows[x]? with
   |none=>rw[e]at h1;cases h1
   |some r=>rw[e]at h1;exact(hT.2.1 r (List.mem_of_getElem? e) z h1).1
  rw[<-h2,Int.toNat_of_nonneg hz];exact h1
 ·intro h
  exact List.mem_map.2 ⟨_,h,rfl⟩
theorem w1Q{n:Nat}{rows:List (Bool×List Int)}(hT:Table n rows){x y:Nat}(h:nxT rows x y):x<n/\y<n:=⟨Z1z hT.1 h,Q0p hT x y ((q0J hT).2 h)⟩
def Both(nx:Nat->List Nat)(u v:Nat):Prop:=Rch nx u v/\Rch nx v u
def GoodN(nx:Nat->List Nat)(m:Nat)(S:Nat->Nat->Prop)(u:Nat):Prop:=
 (∃a b,b∈nx a/\Both nx u a/\Both nx u b)/\ ∀k,k<m-> ∃t,Both nx u t/\S k t
theorem Both.refl(nx:Nat->List Nat)(u:Nat):Both nx u u:=⟨.refl u, .refl u⟩
section
variable{rows:List (Bool×List Int)}{n m:Nat}{S:Nat->Nat->Prop}(hT:Table n rows)
include hT
open Classical in
theorem Z0U{v:Nat}(h:Inf (nxT rows) m S v): ∃u,Rch (nxL rows) v u/\GoodN (nxL rows) m S u:=by
 let X:Nat->Prop:=fun u=>Inf (nxT rows) m S u
 let R:Nat->List Nat:=fun u=>(List.range n).filter fun w=>decide (X w/\Rch (nxL rows) u w)
 obtain⟨z,⟨u,hu1,hu2,hu3⟩,hmin⟩:=j0r (p:=fun z=> ∃u,X u/\Rch (nxL rows) v u/\(R u).length=z) ⟨_,v,h, .refl v,rfl⟩
 have sub: ∀w,Rch (nxL rows) u w->X w->Rch (nxL rows) w u:=fun w h1 h2=>by
  have h3:=hmin _ ⟨w,h2,hu2.trans h1,rfl⟩
  rw[<-hu3]at h3
  have hun:u<n:=Inf.lt hT.1 hu1
  have sl:(R w).Sublist (R u):=by
   have e:R w=(R u).filter fun x=>decide (X x/\Rch (nxL rows) w x):=by
    show _=((List.range n).filter _).filter _
    rw[List.filter_filter]
    refine List.filter_congr fun x _=> ?_
    by_cases hx:X x/\Rch (nxL rows) w x
    ·have:X x/\Rch (nxL rows) u x:=⟨hx.1,h1.trans hx.2⟩
     simp[hx,this]
    ·simp[hx]
   rw[e];exact List.filter_sublist
  have e:=sl.eq_of_length_le h3
  have:u∈R u:=List.mem_filter.2 ⟨List.mem_range.2 hun,by simpa using⟨hu1,Rch.refl u⟩⟩
  rw[<-e]at this
  have:=(List.mem_filter.1 this).2
  simp only[dE]at this
  exact this.2
 obtain⟨f,hf0,hf1,hf2⟩:=hu1
 have hX: ∀i,X (f i):=fun i=>Inf.shift hf1 hf2 i
 have hR: ∀i,Rch (nxL rows) u (f i):=fun i=>by
  induction i with
  |zero=>rw[hf0];exact .refl u
  |succ i ih=>exact ih.trans (.one ((q0J hT).2 (hf1 i)))
 have hB: ∀i,Both (nxL rows) u (f i):=fun i=>⟨hR i,sub _ (hR i) (hX i)⟩
 refine⟨u,hu2,⟨f 0,f 1,(q0J hT).2 (hf1 0),hB 0,hB 1⟩,fun k hk=> ?_⟩
 obtain⟨i,_,hi⟩:=hf2 k hk 0
 exact⟨f i,hB i,hi⟩
theorem k1Z{g:Nat}{P T:Nat->Prop}(hP: ∀u,Rch (nxL rows) u g->P u){t:Nat}(ht:T t)(htg:Rch (nxL rows) t g){w:Nat}(h:Rch (nxL rows) w t): ∀v,nxT rows v w-> ∃d,Rn (nxT rows) P T d v:=by
 induction h with
 |refl t=>exact fun v hv=>⟨0,t,hv,hP t htg,ht⟩
 | @step a b c h1 h2 ih=>
  intro v hv
  obtain⟨d,hd⟩:=ih ht htg a ((q0J hT).1 h1)
  exact⟨d+1,a,hv,hP a (Rch.step h1 (h2.trans htg)),hd⟩
theorem Z0V{v g:Nat}(hv:Rch (nxL rows) v g)(hg:GoodN (nxL rows) m S g):Inf (nxT rows) m S v:=by
 have key: ∀(T:Nat->Prop) (t:Nat),T t->Both (nxL rows) g t-> ∀u,Rch (nxL rows) u g-> ∃d,Rn (nxT rows) (fun u=>Rch (nxL rows) u g) T d u:=by
  intro T t ht hgt u hu
  obtain⟨⟨a,b,hab,⟨g1,g2⟩,g3,g4⟩,_⟩:=hg
  have hua:Rch (nxL rows) u a:=hu.trans g1
  have hbt:Rch (nxL rows) b t:=g4.trans hgt.1
  cases hua with
  |refl=>exact k1Z hT (fun _ h=>h) ht hgt.2 hbt u ((q0J hT).1 hab)
  |step h1 h2=>exact k1Z hT (fun _ h=>h) ht hgt.2 (h2.trans (Rch.step hab hbt)) u ((q0J hT).1 h1)
 by_cases hm:0<m
 ·refine k0M (P:=fun u=>Rch (nxL rows) u g) hm (fun u hu k hk=> ?_) hv
  obtain⟨t,ht1,ht2⟩:=hg.2 k hk
  exact key (S k) t ht2 ht1 u hu
 ·obtain rfl:m=0:=by omega
  refine w0B (P:=fun u=>Rch (nxL rows) u g) (fun u hu=> ?_) hv
  exact key (fun _=>True) g trivial (Both.refl _ g) u hu
theorem z1n{v:Nat}:Inf (nxT rows) m S v↔ ∃u,Rch (nxL rows) v u/\GoodN (nxL rows) m S u:=
 ⟨Z0U hT,fun⟨u,h1,h2⟩=>Z0V hT h1 h2⟩
end
theorem J0f(n:Nat)(b:Bool):(List.replicate n (.c (.bool b)):List U)=uBs (List.replicate n b):=by simp[uBs]
theorem k0o{l:List Bool}{k c:Nat}{b:Bool}(hk:k<l.length):inB (l.set k b) c↔(c=k/\b=true)\/(c≠k/\inB l c):=by
 unfold inB
 rw[List.getElem?_set]
 by_cases e:k=c
 ·subst e;rw[if_pos rfl,if_pos hk];simp
 ·rw[if_neg e]
  exact⟨fun h=> .inr ⟨fun h=>e h.symm,h⟩,fun h=>h.elim (fun h=>absurd h.1.symm e) (·.2)⟩
theorem w0e{l:List Bool}{k:Nat}(hk:k<l.length):l[k]? =some (l[k])/\(inB l k↔l[k]=true):=by
 refine⟨q0a hk, ?_⟩
 unfold inB
 rw[q0a hk]
 simp
theorem z0g{n c:Nat}: ¬inB (List.replicate n false) c:=by
 unfold inB
 rw[List.getElem?_replicate]
 split<;>simp
def InP(rows:List (Bool×List Int))(of:Nat->Nat)(v k c:Nat):Prop:=
 ∃u j r w,rows[u]? =some r/\r.2[j]? =some ((w:Nat):Int)/\(u<v\/(u=v/\j<k))/\of u=c/\of w=c
theorem z1M{rows:List (Bool×List Int)}{of:Nat->Nat}{v k c w:Nat}{r:Bool×List Int}(hr:rows[v]? =some r)(hk:r.2[k]? =some ((w:Nat):Int)):
  InP rows of v (k+1) c↔InP rows of v k c\/(of v=c/\of w=c):=by
 constructor
 ·rintro⟨u,j,r',w',h1,h2,h3,h4,h5⟩
  by_cases e:u=v/\j=k
  ·obtain⟨rfl,rfl⟩:=e
   rw[hr]at h1;cases h1
   rw[hk]at h2
   have:w=w':=by injection h2 with h2;omega
   subst this
   exact .inr ⟨h4,h5⟩
  ·exact .inl ⟨u,j,r',w',h1,h2,by omega,h4,h5⟩
 ·rintro(⟨u,j,r',w',h1,h2,h3,h4,h5⟩ |⟨h4,h5⟩)
  ·exact⟨u,j,r',w',h1,h2,by omega,h4,h5⟩
  ·exact⟨v,k,r,w,hr,hk,by omega,h4,h5⟩
theorem Q1p{rows:List (Bool×List Int)}{of:Nat->Nat}{v k c:Nat}{r:Bool×List Int}(hr:rows[v]? =some r)(hk:k=r.2.length):InP rows of (v+1) 0 c↔InP rows of v k c:=by
 constructor
 ·rintro⟨u,j,r',w',h1,h2,h3,h4,h5⟩
  refine⟨u,j,r',w',h1,h2, ?_,h4,h5⟩
  by_cases e:u=v
  ·subst e
   rw[hr]at h1;cases h1
   have:=(gE.1 h2).1
   omega
  ·omega
 ·rintro⟨u,j,r',w',h1,h2,h3,h4,h5⟩
  exact⟨u,j,r',w',h1,h2,by omega,h4,h5⟩
theorem q1e(b:Bool)(ls:List (List Bool)):U.len (.sl b (ls.map setU))=some ls.length:=by simp[U.len,U.asL]
theorem z1N{b:Bool}{ls:List (List Bool)}{k:Nat}{l:List Bool}(h:ls[k]? =some l):U.idx 1 (.sl b (ls.map setU)) (k:Int)=some (setU l):=by
 simp[U.idx,U.asL,elU,h,setU,U.size,U.cells]
section
variable{M:YM}{n:Nat}{rows:List (Bool×List Int)}{of:Nat->Nat}{ofs:List Int}{b1 b2 b3:Bool}{ls:List (List Bool)}
variable(hT:Table n rows)(hn:n<=1000000)(hol:ofs.length=n)(hof: ∀x,x<n->ofs[x]? =some ((of x:Nat):Int))
include hT hn hol hof
theorem z1O(hN: ∀x,x<n->of x<1000000){sets:U}: ∀(d i N:Nat),i+d=n->N<=1000000->(∀x,x<i->of x<N)->
  ∃N',N'<=1000000/\(∀x,x<n->of x<N')/\y92_1 M (uLs b1 rows) (uIs b2 ofs) sets (N:Int) (uIs b2 ofs) (n:Int) (i:Int)=y92_2 M (uLs b1 rows) (uIs b2 ofs) sets (N':Int) (uLs b1 rows) (n:Int) 0 ⟨true,1,uBs (List.replicate N' false)⟩:=by
 intro d
 induction d with
 |zero=>
  intro i N hi hN1 hx
  refine⟨N,hN1,fun x hx'=>hx x (by omega), ?_⟩
  rw[W0h]
  simp only[show¬((i:Int)<(n:Int)) by omega,dF,bF,iF,len_uLs,hT.1,oS,J0f,iN]
  rw[if_pos ⟨by omega,by omega,trivial⟩]
 |succ d ih=>
  intro i N hi hN1 hx
  have hin:i<n:=by omega
  have hb:=hN i hin
  obtain⟨N',h1,h2,h3⟩:=ih (i+1) (max N (of i+1)) (by omega) (by omega) (fun x hx'=>by
   by_cases e:x=i
   ·subst e;omega
   ·have:=hx x (by omega);omega)
  refine⟨N',h1,h2, ?_⟩
  rw[W0h,<-h3]
  have e1:(if((of i+1:Nat):Int)>(N:Int)then((of i+1:Nat):Int)else(N:Int))=((max N (of i+1):Nat):Int):=by split<;>omega
  simp only[show((i:Int)<(n:Int)) by omega,dY,iT,q0L (hof i hin),oS,cell_c,asI_c,q0b (show of i<=1000000000 by omega),e1,q0b (show i<=1000000000 by omega)]
variable{N:Nat}(hN: ∀x,x<n->of x<N)(hN1:N<=1000000)
include hN hN1
theorem z1P{sets:U}{v:Nat}(hv:v<n){r:Bool×List Int}(hr:rows[v]? =some r): ∀(d k:Nat) (l:List Bool),k+d=r.2.length->l.length=N->(∀c,inB l c↔InP rows of v k c)->
  ∃l',l'.length=N/\(∀c,inB l' c↔InP rows of (v+1) 0 c)/\y92_3 M (uLs b1 rows) (uIs b2 ofs) sets (N:Int) (v:Int) (uLs b1 rows) (n:Int) (v:Int) (uIs r.1 r.2) (r.2.length:Int) (k:Int) ⟨true,1,uBs l⟩=y92_2 M (uLs b1 rows) (uIs b2 ofs) sets (N:Int) (uLs b1 rows) (n:Int) ((v+1:Nat):Int) ⟨true,1,uBs l'⟩:=by
 have hrl:=Z0R hT hr
 intro d
 induction d with
 |zero=>
  intro k l hk hl hx
  refine⟨l,hl,fun c=>(hx c).trans (Q1p hr (by omega)).symm, ?_⟩
  rw[W0j]
  simp only[show¬((k:Int)<(r.2.length:Int)) by omega,dF,bF,iF,q0b (show v<=1000000000 by omega)]
 |succ d ih=>
  intro k l hk hl hx
  have hkl:k<r.2.length:=by omega
  have hg:r.2[k]? =some r.2[k]:=q0a hkl
  obtain⟨g1,g2⟩:=hT.2.1 r (List.mem_of_getElem? hr) _ (lM hkl)
  obtain⟨w,hw⟩:=iZ g1
  have hwn:w<n:=by omega
  rw[hw]at hg
  have hc:of v<l.length:=by rw[hl];exact hN v hv
  obtain⟨a1,a2⟩:=w0e hc
  let q:Bool:=if l[of v]=false then decide (((of v:Nat):Int)=((of w:Nat):Int))else l[of v]
  have hq:q=true↔inB l (of v)\/of v=of w:=by
   rw[a2]
   show(if l[of v]=false then _ else _)=true↔_
   cases h:l[of v]
   ·simp;omega
   ·simp
  obtain⟨l',h1,h2,h3⟩:=ih (k+1) (l.set (of v) q) (by omega) (by rw[List.length_set];exact hl) (fun c=>by
   rw[k0o hc,z1M hr hg,hq,hx,hx]
   constructor
   ·rintro(⟨rfl,h |h⟩ |⟨_,h⟩)
    ·exact .inl h
    ·exact .inr ⟨rfl,h.symm⟩
    ·exact .inl h
   ·rintro(h |⟨h,h'⟩)
    ·by_cases e:c=of v
     ·subst e;exact .inl ⟨rfl, .inl h⟩
     ·exact .inr ⟨e,h⟩
    ·exact .inl ⟨h.symm, .inr (by omega)⟩)
  refine⟨l',h1,h2, ?_⟩
  rw[W0j,<-h3]
  have e1:(((uBs l)[of v]?).bind fun v10=>(v10.cell 0).bind fun c11=>c11.asB.bind fun b12=>(if b12=false then some (decide (((of v:Nat):Int)=((of w:Nat):Int)))else some b12))=some q:=by
   rw[j0e a1]
   simp only[oS,cell_c,asB_c]
   show _=some (if _ then _ else _)
   split<;>rfl
  simp only[show((k:Int)<(r.2.length:Int)) by omega,dY,iT,q0L hg,q0L (hof v hv),q0L (hof w hwn),oS,cell_c,asI_c,j0j hc,iN,j0e a1,asB_c,q0b (show k<=1000000000 by omega)]
  cases h:l[of v]
  ·have hqe:q=decide (((of v:Nat):Int)=((of w:Nat):Int)):=by show(if l[of v]=false then _ else _)=_;rw[if_pos h]
   simp only[iT,oS,j0p hc,hqe]
  ·have hqe:q=true:=by show(if l[of v]=false then _ else _)=_;rw[h];simp
   simp only[Bool.true_eq_false,iF,oS,j0p hc,hqe]
theorem z1Q{sets:U}: ∀(d v:Nat) (l:List Bool),v+d=n->l.length=N->(∀c,inB l c↔InP rows of v 0 c)->
  ∃l',l'.length=N/\(∀c,inB l' c↔InP rows of n 0 c)/\ ∀k4,U.len sets=some k4->y92_2 M (uLs b1 rows) (uIs b2 ofs) sets (N:Int) (uLs b1 rows) (n:Int) (v:Int) ⟨true,1,uBs l⟩=y92_4 M (uLs b1 rows) (uIs b2 ofs) (N:Int) sets (k4:Int) 0 ⟨true,1,uBs l'⟩:=by
 intro d
 induction d with
 |zero=>
  intro v l hv hl hx
  obtain rfl:v=n:=by omega
  refine⟨l,hl,hx,fun k4 hk=> ?_⟩
  rw[W0i]
  simp only[Int.lt_irrefl,dF,bF,iF,hk,oS]
 |succ d ih=>
  intro v l hv hl hx
  have hvn:v<n:=by omega
  have hr:rows[v]? =some (rows[v]'(by rw[hT.1];exact hvn)):=q0a (by rw[hT.1];exact hvn)
  obtain⟨l1,a1,a2,a3⟩:=z1P hT hn hol hof hN hN1 (M:=M) (b1:=b1) (b2:=b2) (sets:=sets) hvn hr _ 0 l (Nat.zero_add _) hl hx
  obtain⟨l',h1,h2,h3⟩:=ih (v+1) l1 (by omega) a1 a2
  refine⟨l',h1,h2,fun k4 hk=> ?_⟩
  rw[W0i]
  simp only[show((v:Int)<(n:Int)) by omega,dY,iT,j0P hr,oS,cell_uIs,len_uIs]
  rw[<-h3 k4 hk,<-a3]
  rfl
theorem z1R{ls':U}{k4 k:Nat}{h:List Bool}(hh:h.length=N){l0:List Bool}: ∀(d i:Nat) (l:List Bool),i+d=N->l.length=N->(∀c,inB l c↔inB l0 c/\(c<i->inB h c))->l0.length=N->
  ∃l',l'.length=N/\(∀c,inB l' c↔inB l0 c/\inB h c)/\y92_6 M (uLs b1 rows) (uIs b2 ofs) (N:Int) ls' (k4:Int) (k:Int) (N:Int) (i:Int) ⟨true,1,uBs l⟩ ⟨true,1,uBs h⟩=y92_4 M (uLs b1 rows) (uIs b2 ofs) (N:Int) ls' (k4:Int) (IntKind.wrap .i64 ((k:Int)+1)) ⟨true,1,uBs l'⟩:=by
 intro d
 induction d with
 |zero=>
  intro i l hi hl hx hl0
  refine⟨l,hl,fun c=>(hx c).trans ⟨fun g=>⟨g.1,g.2 ?_⟩,fun g=>⟨g.1,fun _=>g.2⟩⟩, ?_⟩
  ·have:=(gE.1 g.1).1;omega
  ·rw[W0n]
   simp only[show¬((i:Int)<(N:Int)) by omega,dF,bF,iF]
 |succ d ih=>
  intro i l hi hl hx hl0
  have hc:i<l.length:=by omega
  have hc2:i<h.length:=by omega
  obtain⟨a1,a2⟩:=w0e hc
  obtain⟨c1,c2⟩:=w0e hc2
  obtain⟨l',h1,h2,h3⟩:=ih (i+1) (l.set i (l[i]&&h[i])) (by omega) (by rw[List.length_set];exact hl) (fun c=>by
   rw[k0o hc,bA,<-a2,<-c2,hx]
   constructor
   ·rintro(⟨rfl,⟨g1,g2⟩,g3⟩ |⟨g0,g1⟩)
    ·exact⟨g1,fun _=>g3⟩
    ·have g2:=(hx c).1 g1
     exact⟨g2.1,fun g3=>g2.2 (by omega)⟩
   ·rintro⟨g1,g2⟩
    by_cases e:c=i
    ·subst e;exact .inl ⟨rfl,⟨g1,fun g=>absurd g (Nat.lt_irrefl _)⟩,g2 (by omega)⟩
    ·exact .inr ⟨e,(hx c).2 ⟨g1,fun g=>g2 (by omega)⟩⟩) hl0
  refine⟨l',h1,h2, ?_⟩
  rw[W0n,<-h3]
  simp only[show((i:Int)<(N:Int)) by omega,dY,iT,j0j hc,j0j hc2,iN,j0e a1,j0e c1,oS,cell_c,asB_c,q0b (show i<=1000000000 by omega)]
  cases e:l[i]
  ·simp only[bF,iF,oS,j0p hc,Bool.false_and]
  ·simp only[iT,oS,j0p hc,Bool.true_and]
theorem z1S{ls':U}{k4 k:Nat}{s l0:List Bool}(hs:s.length=n)(hl0:l0.length=N): ∀(d v:Nat) (h:List Bool),v+d=n->h.length=N->(∀c,inB h c↔ ∃u,u<v/\of u=c/\inB s u)->
  ∃l',l'.length=N/\(∀c,inB l' c↔inB l0 c/\ ∃u,u<n/\of u=c/\inB s u)/\y92_5 M (uLs b1 rows) (uIs b2 ofs) (N:Int) (setU s) ls' (k4:Int) (k:Int) (n:Int) (v:Int) ⟨true,1,uBs l0⟩ ⟨true,1,uBs h⟩=y92_4 M (uLs b1 rows) (uIs b2 ofs) (N:Int) ls' (k4:Int) (IntKind.wrap .i64 ((k:Int)+1)) ⟨true,1,uBs l'⟩:=by
 intro d
 induction d with
 |zero=>
  intro v h hv hh hx
  obtain rfl:v=n:=by omega
  obtain⟨l',h1,h2,h3⟩:=z1R hT hn hol hof hN hN1 (M:=M) (b1:=b1) (b2:=b2) (ls':=ls') (k4:=k4) (k:=k) hh (l0:=l0) N 0 l0 (by omega) hl0 (fun c=>⟨fun g=>⟨g,fun g'=>absurd g' (Nat.not_lt_zero _)⟩,(·.1)⟩) hl0
  refine⟨l',h1,fun c=>by rw[h2,hx], ?_⟩
  rw[W0l]
  simp only[Int.lt_irrefl,dF,bF,iF,uBs_length,hl0]
  exact h3
 |succ d ih=>
  intro v h hv hh hx
  have hvn:v<n:=by omega
  have hc:of v<h.length:=by rw[hh];exact hN v hvn
  have hc2:v<s.length:=by omega
  obtain⟨a1,a2⟩:=w0e hc
  obtain⟨c1,c2⟩:=w0e hc2
  obtain⟨l',h1,h2,h3⟩:=ih (v+1) (h.set (of v) (h[of v]||s[v])) (by omega) (by rw[List.length_set];exact hh) (fun c=>by
   rw[k0o hc,Bool.or_eq_true,<-a2,<-c2]
   constructor
   ·rintro(⟨rfl,g |g⟩ |⟨g0,g⟩)
    ·obtain⟨u,u1,u2,u3⟩:=(hx _).1 g;exact⟨u,by omega,u2,u3⟩
    ·exact⟨v,by omega,rfl,g⟩
    ·obtain⟨u,u1,u2,u3⟩:=(hx _).1 g;exact⟨u,by omega,u2,u3⟩
   ·rintro⟨u,u1,u2,u3⟩
    by_cases e:u=v
    ·subst e;exact .inl ⟨u2.symm, .inr u3⟩
    ·have g:=(hx c).2 ⟨u,by omega,u2,u3⟩
     by_cases e2:c=of v
     ·subst e2;exact .inl ⟨rfl, .inl g⟩
     ·exact .inr ⟨e2,g⟩)
  refine⟨l',h1,h2, ?_⟩
  rw[W0l,<-h3]
  simp only[show((v:Int)<(n:Int)) by omega,dY,iT,q0L (hof v hvn),oS,cell_c,asI_c,j0j hc,iN,j0e a1,asB_c,setU,J0j c1,q0b (show v<=1000000000 by omega)]
  cases e:h[of v]
  ·simp only[iT,oS,j0p hc,Bool.false_or]
  ·simp only[Bool.true_eq_false,iF,oS,j0p hc,Bool.true_or]
theorem z1T{l:List Bool}(hl:l.length=N): ∀(d v:Nat) (out:List Bool),v+d=n->out.length=n->(∀x,inB out x↔x<v/\inB l (of x))->
  ∃out',out'.length=n/\(∀x,inB out' x↔x<n/\inB l (of x))/\y92_7 M (uIs b2 ofs) (n:Int) (v:Int) ⟨true,1,uBs l⟩ ⟨true,1,uBs out⟩=some (.sl ⟨true,1,uBs out'⟩):=by
 intro d
 induction d with
 |zero=>
  intro v out hv ho hx
  obtain rfl:v=n:=by omega
  refine⟨out,ho,hx, ?_⟩
  rw[W0m]
  simp only[Int.lt_irrefl,dF,bF,iF,j0z,iT]
 |succ d ih=>
  intro v out hv ho hx
  have hvn:v<n:=by omega
  have hc:of v<l.length:=by rw[hl];exact hN v hvn
  have hc2:v<out.length:=by omega
  obtain⟨a1,a2⟩:=w0e hc
  obtain⟨l',h1,h2,h3⟩:=ih (v+1) (out.set v l[of v]) (by omega) (by rw[List.length_set];exact ho) (fun c=>by
   rw[k0o hc2,<-a2,hx]
   constructor
   ·rintro(⟨rfl,g⟩ |⟨g0,g1,g2⟩)
    ·exact⟨by omega,g⟩
    ·exact⟨by omega,g2⟩
   ·rintro⟨g1,g2⟩
    by_cases e:c=v
    ·subst e;exact .inl ⟨rfl,g2⟩
    ·exact .inr ⟨e,by omega,g2⟩)
  refine⟨l',h1,h2, ?_⟩
  rw[W0m,<-h3]
  simp only[show((v:Int)<(n:Int)) by omega,dY,iT,q0L (hof v hvn),oS,cell_c,asI_c,j0j hc,j0j hc2,iN,j0e a1,asB_c,j0p hc2,q0b (show v<=1000000000 by omega)]
theorem z1U(hs: ∀l∈ls,l.length=n)(hm:ls.length<=1000000): ∀(d k:Nat) (l:List Bool),k+d=ls.length->l.length=N->(∀c,inB l c↔InP rows of n 0 c/\ ∀j T,j<k->ls[j]? =some T-> ∃u,u<n/\of u=c/\inB T u)->
  ∃out,out.length=n/\(∀x,inB out x↔x<n/\InP rows of n 0 (of x)/\ ∀(j:Nat) (T:List Bool),ls[j]? =some T-> ∃u,u<n/\of u=of x/\inB T u)/\y92_4 M (uLs b1 rows) (uIs b2 ofs) (N:Int) (.sl b3 (ls.map setU)) (ls.length:Int) (k:Int) ⟨true,1,uBs l⟩=some (.sl ⟨true,1,uBs out⟩):=by
 intro d
 induction d with
 |zero=>
  intro k l hk hl hx
  obtain⟨out,h1,h2,h3⟩:=z1T hT hn hol hof hN hN1 (M:=M) (b2:=b2) hl n 0 (List.replicate n false) (by omega) (by simp) (fun x=>⟨fun h=>absurd h z0g,fun h=>absurd h.1 (Nat.not_lt_zero _)⟩)
  refine⟨out,h1,fun x=>(h2 x).trans ?_, ?_⟩
  ·rw[hx]
   constructor
   ·rintro⟨g0,g1,g2⟩
    refine⟨g0,g1,fun j T hj=> ?_⟩
    have hjl:=(gE.1 hj).1
    exact g2 j T (by omega) hj
   ·rintro⟨g0,g1,g2⟩
    exact⟨g0,g1,fun j T _ hj=>g2 j T hj⟩
  ·rw[W0k]
   simp only[show¬((k:Int)<(ls.length:Int)) by omega,dF,bF,iF,len_uLs,hT.1,oS,J0f,iN]
   rw[if_pos ⟨by omega,by omega,trivial⟩]
   exact h3
 |succ d ih=>
  intro k l hk hl hx
  have hkl:k<ls.length:=by omega
  have hg:ls[k]? =some ls[k]:=q0a hkl
  obtain⟨l1,a1,a2,a3⟩:=z1S hT hn hol hof hN hN1 (M:=M) (b1:=b1) (b2:=b2) (ls':= .sl b3 (ls.map setU)) (k4:=ls.length) (k:=k) (hs _ (lM hkl)) hl n 0 (List.replicate N false) (by omega) (by simp) (fun c=>⟨fun h=>absurd h z0g,fun⟨u,h,_⟩=>absurd h (Nat.not_lt_zero _)⟩)
  obtain⟨out,h1,h2,h3⟩:=ih (k+1) l1 (by omega) a1 (fun c=>by
   rw[a2,hx]
   constructor
   ·rintro⟨⟨g1,g2⟩,g3⟩
    refine⟨g1,fun j T hj hT'=> ?_⟩
    by_cases e:j=k
    ·subst e;rw[hg]at hT';cases hT';exact g3
    ·exact g2 j T (by omega) hT'
   ·rintro⟨g1,g2⟩
    exact⟨⟨g1,fun j T hj hT'=>g2 j T (by omega) hT'⟩,g2 k _ (by omega) hg⟩)
  refine⟨out,h1,h2, ?_⟩
  rw[W0k,<-h3]
  simp only[show((k:Int)<(ls.length:Int)) by omega,dY,iT,z1N hg,oS,len_uLs,hT.1,J0f,iN,show U.cell (setU ls[k]) 0=some (setU ls[k])from rfl]
  rw[if_pos ⟨by omega,by omega,trivial⟩,<-q0b (show k<=1000000000 by omega)]
  exact a3
end
def cr(e:E4):Bool:=decide (bitI .and .i64 e.n e.v=0)
def markL(n:Nat)(l:List Int):List Bool:=(List.range n).map fun i=>decide (((i:Nat):Int)∈l)
@[simp] theorem markL_len (n:Nat) (l:List Int):(markL n l).length=n:=by simp[markL]
theorem q1z{l l':List Bool}(h:l.length=l'.length)(hx: ∀i,inB l i↔inB l' i):l=l':=by
 refine List.ext_getElem? fun i=> ?_
 by_cases hi:i<l.length
 ·obtain⟨a1,a2⟩:=w0e hi
  obtain⟨b1,b2⟩:=w0e (show i<l'.length by omega)
  rw[a1,b1]
  have:=hx i
  rw[a2,b2]at this
  exact congrArg some (Bool.eq_iff_iff.2 this)
 ·rw[List.getElem?_eq_none (by omega),List.getElem?_eq_none (by omega)]
section
variable{M:YM}{n:Nat}{l:List Int}{b:Bool}
end
structure SI (rows:List (Bool×List Int)) (n:Nat) (src:Nat->Prop) (out:List Bool) (op:List Int) (cur:Option (Nat×Nat)):Prop where
 len:out.length=n
 sound: ∀i,inB out i-> ∃s,src s/\Rch (nxL rows) s i
 src: ∀s,src s->inB out s
 ops: ∀x∈op,∃j:Nat,x=j/\j<n/\inB out j
 all: ∀x,inB out x->(x:Int)∈op\/(∀y,nxT rows x y->inB out y)\/ ∃k,cur=some (x,k)
 cur: ∀x k,cur=some (x,k)->inB out x/\ ∀j y:Nat,j<k->(rows.getD x (false,[])).2[j]? =some (y:Int)->inB out y
section
variable{rows:List (Bool×List Int)}{n:Nat}{src:Nat->Prop}{out:List Bool}{op:List Int}(hT:Table n rows)
include hT
theorem SI.done(h:SI rows n src out [] none){i:Nat}:inB out i↔ ∃s,src s/\Rch (nxL rows) s i:=by
 refine⟨h.sound i, ?_⟩
 rintro⟨s,h1,h2⟩
 have h3:=h.src s h1
 clear h1
 induction h2 with
 |refl=>exact h3
 |step g1 _ ih=>
  refine ih ?_
  rcases h.all _ h3 with g |g |⟨k,g⟩
  ·simp at g
  ·exact g _ ((q0J hT).1 g1)
  ·cases g
theorem SI.take{op':List Int}{x:Nat}(h:SI rows n src out op none)(hx:inB out x)(hs: ∀z∈op,z∈op'\/z=(x:Int))(hs': ∀z∈op',z∈op):SI rows n src out op' (some (x,0)):=by
 refine⟨h.len,h.sound,h.src,fun z hz=>h.ops z (hs' z hz),fun z hz=> ?_,fun z k e=> ?_⟩
 ·rcases h.all z hz with g |g |⟨k,g⟩
  ·rcases hs _ g with g |g
   ·exact .inl g
   ·exact .inr (.inr ⟨0,by rw[show z=x by omega]⟩)
  ·exact .inr (.inl g)
  ·cases g
 ·cases e;exact⟨hx,fun j y hj=>absurd hj (Nat.not_lt_zero _)⟩
theorem SI.left{x k:Nat}(h:SI rows n src out op (some (x,k)))(hk:(rows.getD x (false,[])).2.length<=k):SI rows n src out op none:=
 ⟨h.len,h.sound,h.src,h.ops,fun z hz=>by
  rcases h.all z hz with g |g |⟨k',g⟩
  ·exact .inl g
  ·exact .inr (.inl g)
  ·cases g
   refine .inr (.inl fun y hy=> ?_)
   obtain⟨j,hj⟩:=List.mem_iff_getElem?.1 hy
   have hjl:=(gE.1 hj).1
   exact(h.cur x k rfl).2 j y (by omega) hj,fun z k' e=>(by cases e)⟩
theorem SI.skip{x k y:Nat}(h:SI rows n src out op (some (x,k)))(hk:(rows.getD x (false,[])).2[k]? =some (y:Int))(hy:inB out y):SI rows n src out op (some (x,k+1)):=
 ⟨h.len,h.sound,h.src,h.ops,fun z hz=>by
  rcases h.all z hz with g |g |⟨k',g⟩
  ·exact .inl g
  ·exact .inr (.inl g)
  ·cases g;exact .inr (.inr ⟨k+1,rfl⟩),fun z k' e=>by
  cases e
  refine⟨(h.cur x k rfl).1,fun j y' hj hj'=> ?_⟩
  by_cases hjk:j<k
  ·exact(h.cur x k rfl).2 j y' hjk hj'
  ·have:j=k:=by omega
   subst this
   rw[hk]at hj'
   have:y=y':=by have:=Option.some.inj hj';omega
   rw[<-this];exact hy⟩
theorem SI.mark{x k y:Nat}{op':List Int}(h:SI rows n src out op (some (x,k)))(hk:(rows.getD x (false,[])).2[k]? =some (y:Int))(hyn:y<n)(hs: ∀z,z∈op'↔z∈op\/z=(y:Int)):SI rows n src (out.set y true) op' (some (x,k+1)):=by
 have hyl:y<out.length:=by rw[h.len];exact hyn
 obtain⟨hx,hc⟩:=h.cur x k rfl
 refine⟨by rw[List.length_set];exact h.len,fun i hi=> ?_,fun s hs=>z0h (h.src s hs),fun z hz=> ?_,fun z hz=> ?_,fun z k' e=> ?_⟩
 ·rcases(q0I hyl).1 hi with e |g
  ·subst e
   obtain⟨s,s1,s2⟩:=h.sound x hx
   exact⟨s,s1,s2.trans (.one ((q0J hT).2 (List.mem_of_getElem? hk)))⟩
  ·exact h.sound i g
 ·rcases(hs z).1 hz with g |g
  ·obtain⟨j,g1,g2,g3⟩:=h.ops z g
   exact⟨j,g1,g2,z0h g3⟩
  ·exact⟨y,g,hyn,(q0I hyl).2 (.inl rfl)⟩
 ·by_cases e:z=y
  ·exact .inl ((hs _).2 (.inr (by rw[e])))
  ·have hz':=((q0I hyl).1 hz).resolve_left e
   rcases h.all z hz' with g |g |⟨k',g⟩
   ·exact .inl ((hs _).2 (.inl g))
   ·exact .inr (.inl fun y' hy'=>z0h (g y' hy'))
   ·cases g;exact .inr (.inr ⟨k+1,rfl⟩)
 ·cases e
  refine⟨z0h hx,fun j y' hj hj'=> ?_⟩
  by_cases hjk:j<k
  ·exact z0h (hc j y' hjk hj')
  ·have:j=k:=by omega
   subst this
   rw[hk]at hj'
   have:y=y':=by have:=Option.some.inj hj';omega
   rw[<-this];exact(q0I hyl).2 (.inl rfl)
end
section
variable{M:YM}{rows:List (Bool×List Int)}{n:Nat}{src:Nat->Prop}(hT:Table n rows)(hn:n<=1000000)
include hT hn
end
theorem K0j{b p n y:Nat}(h:y<n):C.elem 1 (.slice b p n) (y:Int)=some (b,p+y):=by
 simp only[C.elem]
 rw[if_pos ⟨by omega,by omega⟩];simp
def BM(H:Heap)(j p:Nat)(out:List Bool):Prop:= ∃cs,H.get j=some (.cells 1 cs)/\p+out.length<=cs.length/\(cs.drop p).take out.length=out.map C.bool
theorem BM.ld{H:Heap}{j p:Nat}{out:List Bool}(h:BM H j p out){k:Nat}{b:Bool}(hk:out[k]? =some b):Heap.ld H j (p+k)=some (.bool b):=by
 obtain⟨cs,h1,h2,h3⟩:=h
 rw[q0c h1]
 exact z0y h3 (by simp[hk])
theorem BM.st{H:Heap}{j p lim:Nat}{out:List Bool}(h:BM H j p out)(hl:lim<=j){k:Nat}(b:Bool)(hk:k<out.length): ∃H',Heap.st lim H j (p+k) [.bool b]=some H'/\BM H' j p (out.set k b)/\H'.next=H.next/\(∀i,i≠j->H'.get i=H.get i)/\ ∃o,H'=H.put j o:=by
 obtain⟨cs,h1,h2,h3⟩:=h
 refine⟨_,q0E h1 hl (by omega),⟨_,put_same _ _ _,by simpa using h2, ?_⟩,rfl,fun i hi=>q0d hi,_,rfl⟩
 rw[List.drop_set,if_neg (by omega),List.length_set,List.take_set,h3,List.map_set]
 congr 1
 omega
theorem BM.keep{H H':Heap}{j p:Nat}{out:List Bool}(h:BM H j p out)(e:H'.get j=H.get j):BM H' j p out:=by
 obtain⟨cs,h1,h2⟩:=h
 exact⟨cs,by rw[e];exact h1,h2⟩
structure Sp (H1:Heap) (jm pm:Nat) (H:Heap) (out:List Bool) (c:C) (q:List Int):Prop where
 mr:BM H jm pm out
 qq:OInts H H1.next c q
 fr: ∀i,i<H1.next->i≠jm->H.get i=H1.get i
section
variable{H1 H:Heap}{lim jm pm:Nat}{out:List Bool}{c:C}{q:List Int}
theorem Sp.nx(h:Sp H1 jm pm H out c q):H1.next<=H.next:=h.qq.1
theorem Sp.ld(h:Sp H1 jm pm H out c q){k:Nat}{b:Bool}(hk:out[k]? =some b):Heap.ld H jm (pm+k)=some (.bool b):=h.mr.ld hk
theorem Sp.mark(h:Sp H1 jm pm H out c q)(hl:lim<=jm)(hj:jm<H1.next){k:Nat}(hk:k<out.length): ∃H',Heap.st lim H jm (pm+k) [.bool true]=some H'/\Sp H1 jm pm H' (out.set k true) c q:=by
 obtain⟨H',a1,a2,a3,a4,o,rfl⟩:=h.mr.st hl true hk
 refine⟨_,a1,a2,j0a h.qq fun j p n e=> ?_,fun i hi hne=>by rw[a4 i hne];exact h.fr i hi hne⟩
 rcases h.qq.2.2 with⟨e',_⟩ |⟨i,o,cs,e',h2,_⟩
 ·rw[e]at e';cases e'
 ·rw[e]at e';cases e';omega
theorem Sp.push(h:Sp H1 jm pm H out c q)(hl:lim<=jm)(hj:jm<H1.next)(x:Int)(hroom:q.length+1<=2 ^ 36):
  Heap.cellsOf (H.alloc (.cells 1 [.int .i64 x])) 1 (.slice H.next 0 1)=some [.int .i64 x]/\ ∃c' H',Heap.app lim (H.alloc (.cells 1 [.int .i64 x])) 1 c [.int .i64 x] 1=some (c',H')/\Sp H1 jm pm H' out c' (q++[x]):=by
 obtain⟨a1,c',H',a2,a3,a4,a5⟩:=h.qq.append1 (lim:=lim) (by omega) x hroom
 have hn:=h.nx
 have hc: ∀i,i<H1.next-> ∀o n,c≠ .slice i o n:=fun i hi o n e=>by
  rcases h.qq.2.2 with⟨e',_⟩ |⟨i',o',cs,e',h2,_⟩
  ·rw[e]at e';cases e'
  ·rw[e]at e';cases e';omega
 refine⟨a1,c',H',a2, ?_,a3,fun i hi hne=> ?_⟩
 ·exact h.mr.keep (a4.keep jm (by omega) (hc jm hj))
 ·rw[a4.keep i (by omega) (hc i hi)];exact h.fr i hi hne
theorem Sp.pop{s:Int}(h:Sp H1 jm pm H out c (s::q)): ∃p c5,C.elem 1 c 0=some p/\H.ld p.1 p.2=some (.int .i64 s)/\Heap.sub lim H 1 c 1 none=some c5/\Sp H1 jm pm H out c5 q:=by
 obtain⟨p,a1,a2⟩:=h.qq.ints.read (j:=0) (v:=s) rfl
 have e0:((0:Nat):Int)=0:=rfl
 rw[e0]at a1
 obtain⟨hb,hr,h0 |⟨i,o,cs,he,h2,h3,h4,h5,h6⟩⟩:=h.qq
 ·simp at h0
 ·simp only[List.map_cons,List.length_cons,List.length_map]at he h5 h6
  subst he
  have hsub:Heap.sub lim H 1 (.slice i o (q.length+1)) 1 none=some (.slice i (o+1) q.length):=by
   have hbad:H.szBad i 1=false:=by simp[Heap.szBad,h4]
   simp only[Heap.sub,hbad,bF,and_false,iF,Option.getD_none]
   rw[if_pos (by omega)]
   simp
  refine⟨p,_,a1,a2,hsub,h.mr,⟨hb,fun r hr'=>hr r (by simp at hr'⊢;exact .inr hr'), .inr ⟨i,o+1,cs,by simp,h2,h3,h4,by simp;omega, ?_⟩⟩,h.fr⟩
  simp only[List.length_map]
  have e:(cs.drop (o+1)).take (q.length*1)=((cs.drop o).take ((q.length+1)*1)).drop 1:=by
   rw[List.drop_take,List.drop_drop];congr 1
  rw[e,h6]
  simp[rowI]
end
section
variable{M:Mach}{H1:Heap}{F:Nat->Prop}{jm pm n:Nat}{g:C}{bb:Bool}{rows:List (Bool×List Int)}{src:Nat->Prop}
variable(hl:M.lim<=jm)(hj:jm<H1.next)(hF: ∀i,F i->i<H1.next/\i≠jm)(hg:UC H1 F (uLs bb rows) [g])(hT:Table n rows)(hn:n<=1000000)
include hl hj hF hg hT hn
end
theorem k0g{H:Heap}{F:Nat->Prop}: ∀(l:List Bool) (cs:List C),EsR H F (uBs l) 1 cs->cs=l.map C.bool
 | [],cs,h=>h
 |b::l,cs,h=>by
  obtain⟨a,r,rfl,h1,h2,h3⟩:=h
  obtain⟨_,rfl⟩:=h2
  rw[k0g l r h3];rfl
theorem K1H{lim:Nat}{M:YM}(hM:CallsY lim M.ext){f:FuncId}{us:List U}{l:List Bool}(hmd:md f=[.sls])(h:ycall M f us=some (.sl ⟨true,1,uBs l⟩)){H:Heap}{F:Nat->Prop}{vs:List V}(hl:lim<=H.next)(hF: ∀i,F i->i<H.next)(hv:UVs H F us vs):
  ∃j p H' F',mcall (MH lim) f vs H=some (.c (.slice j p l.length),H')/\FrX none H F H' F'/\H.next<=j/\j<H'.next/\ ¬F' j/\BM H' j p l:=by
 obtain⟨v,H',F',k1,k2,k3,k4,k5,k6,k7⟩:=(j0X (vext:=awExt 8) (yext:=M.ext) (prog:=progOf 8 prog true) (lim:=lim) k0p hM) f us _ h H F vs hl hF hv
 rw[hmd]at k7
 obtain⟨⟨e,_⟩ |⟨_,j,p,cs,rfl,g1,g2,g3,g4,g5,g6⟩,_⟩:=k7
 ·cases e
 ·simp only[uBs_length,Nat.mul_one]at k1 g5 g6
  exact⟨j,p,H',F',k1,⟨k2,fun i hi _=>k3 i hi,k4,k5,k6⟩,g1,g2,g3,cs,g4,g5,k0g l _ g6⟩
def psU(es:List E4):List (Int×Int):=(es.filter cr).map fun e=>(e.t,e.f)
def rowsU(a:Nat)(es:List E4):List (Bool×List Int):=tabU (tabD a (psU es))
def setsU(a:Nat)(xs:List (Bool×List Int)):List (List Bool):=xs.map fun x=>markL a x.2
theorem w1W(es:List E4):(psU es).length<=es.length:=by rw[psU,List.length_map];exact List.length_filter_le _ _
open Classical in
noncomputable def usefulL(a:Nat)(l:List Int)(es:List E4)(xs:List (Bool×List Int)):List Bool:=
 (List.range a).map fun v=>decide (Inf (nxT (rowsU a es)) xs.length (fun k=>inB ((setsU a xs).getD k [])) v/\ ∃s:Nat,(s:Int)∈l/\Rch (nxL (rowsU a es)) s v)
structure AU (lim:Nat) (H0:Heap) (F:Nat->Prop) (b a:Nat) (l:List Int) (es:List E4) (xs:List (Bool×List Int)) (b1 b2 b3:Bool) (c1 c2 c3:C):Prop where
 hl:lim<=b
 hF: ∀i,F i->i<b
 ha:a<=300
 he:es.length<=6000
 hx:xs.length<=8
 ok:es.all (eOK (a:Int))=true
 u1:UC H0 F (uIs b1 l) [c1]
 u2:UC H0 F (uEs b2 es) [c2]
 u3:UC H0 F (uLs b3 xs) [c3]
 hls:l.length<=1000000/\ ∀s∈l,0<=s/\s<(a:Int)
 hxs: ∀x∈xs,x.2.length<=1000000/\ ∀s∈x.2,0<=s/\s<(a:Int)
section
variable{lim:Nat}{M:YM}(hM:CallsY lim M.ext){H0:Heap}{F:Nat->Prop}{b a:Nat}{b1 b2 b3:Bool}{l:List Int}{es:List E4}{xs:List (Bool×List Int)}{c1 c2 c3:C}
variable(A:AU lim H0 F b a l es xs b1 b2 b3 c1 c2 c3)
include A
theorem AU.psm{p:Int×Int}(hp:p∈psU es):(0<=p.1/\p.1<(a:Int))/\0<=p.2/\p.2<(a:Int):=by
 obtain⟨e,he,rfl⟩:=List.mem_map.1 hp
 obtain⟨k,hk⟩:=List.mem_iff_getElem?.1 (List.mem_filter.1 he).1
 obtain⟨⟨f,hf1,hf2⟩,⟨t,ht1,ht2⟩,_⟩:=k0q A.ok hk
 simp only[hf1,ht1]
 omega
theorem AU.tab:Table a (rowsU a es):=w0I (fun p hp=>(A.psm hp).1) (nT (w1W es) (by have:=A.he;omega))
include hM
omit hM A in
end
section
variable{lim:Nat}{M:YM}(hM:CallsY lim M.ext)(hrev:HasRev M){H:Heap}{F:Nat->Prop}{a:Nat}{b1 b2 b3:Bool}{l:List Int}{es:List E4}{xs:List (Bool×List Int)}{c1 c2 c3:C}
variable(A:AU lim H F H.next a l es xs b1 b2 b3 c1 c2 c3)
include hM hrev A
end
def sxI(l:List Int):Sx:=if l=[]then⟨false,0,[]⟩else⟨true,1,l.map uI⟩
def numsL(a:Nat)(num:Nat->Int):List Int:=(List.range a).map num
theorem z1k{a:Nat}{num:Nat->Int}{i:Nat}(h:i<a):(numsL a num)[i]? =some (num i):=by simp[numsL,h]
section
variable{M:YM}{a:Nat}{num:Nat->Int}{b bn:Bool}{l:List Int}
end
section
variable{lim:Nat}{M:YM}(hM:CallsY lim M.ext){H0:Heap}{F:Nat->Prop}{b a:Nat}{b1 b2 b3:Bool}{l:List Int}{es:List E4}{xs:List (Bool×List Int)}{c1 c2 c3:C}
variable(A:AU lim H0 F b a l es xs b1 b2 b3 c1 c2 c3)
include hM A
end
section
variable{lim:Nat}{M:YM}(hM:CallsY lim M.ext){H:Heap}{F:Nat->Prop}{a:Nat}{b1 b2 b3:Bool}{l:List Int}{es:List E4}{xs:List (Bool×List Int)}{c1 c2 c3:C}
variable(A:AU lim H F H.next a l es xs b1 b2 b3 c1 c2 c3)
include hM A
end
theorem w1R(a:Nat)(num:Nat->Int):fc a num=((numsL a num).map rowI).flatten:=by
 unfold fc numsL
 induction List.range a with
 |nil=>rfl
 |cons x l ih=>simp only[List.map_cons,List.flatten_cons,ih];rfl
theorem w1S{H:Heap}{F:Nat->Prop}{j a:Nat}{num:Nat->Int}(hF:F j)(h:H.get j=some (.cells 1 (fc a num))):UC H F (.sl true ((numsL a num).map uI)) [.slice j 0 a]:=by
 have hl:(numsL a num).length=a:=by simp[numsL]
 refine .inr ⟨rfl,j,0,_,1,by simp[hl],hF,h,by simp[hl,z0T], ?_⟩
 rw[List.drop_zero,List.take_of_length_le (by simp[hl,z0T]),w1R]
 exact w0q _
theorem k0N{n:Nat}{nx:Nat->List Nat}(hnx: ∀x,∀y∈nx x,y<n){k:Nat}: ∀(vs:List Nat) (σ σ':TS),(∀v∈vs,v<n)->TB n σ->visAll nx k vs σ=some σ'->TB n σ'
 | [],σ,σ',_,tb,h=>by simp only[visAll]at h;cases h;exact tb
 |v::vs,σ,σ',hv,tb,h=>by
  have hv': ∀u∈vs,u<n:=fun u hu=>hv u (by simp[hu])
  simp only[visAll]at h
  split at h
  ·rename_i h0
   obtain⟨σ1,g1,g2⟩:=oB.1 h
   exact k0N hnx vs σ1 σ' hv' (tb.on (K0i hnx k σ v σ1 h0 (hv v (by simp)) g1).1) g2
  ·exact k0N hnx vs σ σ' hv' tb h
theorem z1o(n:Nat):TB n TS.start:=by
 refine⟨?_,nR _,nR _,fun x hx=>(by cases hx)⟩
 show 0+rest n TS.start<=n
 unfold rest
 have:=List.length_filter_le (fun w=>decide (TS.start.num w=0)) (List.range n)
 rw[List.length_range]at this
 omega
section
variable{M:YM}{n:Nat}{rows:List (Bool×List Int)}(hT:Table n rows)(hn:n<=1000000)
include hT hn
theorem X0M: ∃σ,visAll (nxL rows) n (List.range n) TS.start=some σ/\ ∀(b1 b2 b3:Bool) (ls:List (List Bool)),(∀l∈ls,l.length=n)->ls.length<=1000000->
  ∃out,y92 M (uLs b1 rows) (uIs b2 (numsL n σ.of)) (.sl b3 (ls.map setU))=some (.sl ⟨true,1,uBs out⟩)/\out.length=n/\ ∀x,inB out x↔x<n/\GoodN (nxL rows) ls.length (fun k=>inB (ls.getD k [])) x:=by
 obtain⟨σ,h1,h2,h3⟩:=W0T (Q0p hT) (nR n)
 refine⟨σ,h1,fun b1 b2 b3 ls hs hm=> ?_⟩
 have tb:=k0N (Q0p hT) (List.range n) TS.start σ (fun v hv=>List.mem_range.1 hv) (z1o n) h1
 have hf:σ.f<=n:=by have:=tb.f;have:=tb.c;omega
 let of:Nat->Nat:=fun x=>(σ.of x).toNat
 have hof: ∀x,x<n->(numsL n σ.of)[x]? =some ((of x:Nat):Int):=fun x hx=>by
  rw[z1k hx]
  have:=(h2 x hx).1
  show some (σ.of x)=some (((σ.of x).toNat:Nat):Int)
  congr 1;omega
 have hN: ∀x,x<n->of x<1000000:=fun x hx=>by
  have:=h2 x hx
  show(σ.of x).toNat<1000000
  omega
 have hol:(numsL n σ.of).length=n:=by simp[numsL]
 have same: ∀x y,x<n->y<n->(of x=of y↔Both (nxL rows) x y):=fun x y hx hy=>by
  have:=h2 x hx;have:=h2 y hy
  refine Iff.trans ?_ (h3 x y hx hy)
  show(σ.of x).toNat=(σ.of y).toNat↔_
  constructor<;>intro h<;>omega
 obtain⟨N',a1,a2,a3⟩:=z1O (M:=M) hT hn hol hof hN (b1:=b1) (b2:=b2) (sets:= .sl b3 (ls.map setU)) n 0 0 (by omega) (by omega) (fun x hx=>absurd hx (Nat.not_lt_zero _))
 obtain⟨l1,c1,c2,c3⟩:=z1Q (M:=M) hT hn hol hof a2 a1 (b1:=b1) (b2:=b2) (sets:= .sl b3 (ls.map setU)) n 0 (List.replicate N' false) (by omega) (by simp) (fun c=>⟨fun h=>absurd h z0g,fun⟨u,j,r,w,_,_,h,_⟩=>by omega⟩)
 obtain⟨out,d1,d2,d3⟩:=z1U (M:=M) hT hn hol hof a2 a1 (b1:=b1) (b2:=b2) (b3:=b3) hs hm ls.length 0 l1 (by omega) c1 (fun c=>by
  rw[c2]
  exact⟨fun h=>⟨h,fun j T hj=>absurd hj (Nat.not_lt_zero _)⟩,(·.1)⟩)
 refine⟨out, ?_,d1,fun x=> ?_⟩
 ·rw[Z1f]
  simp only[len_uIs,hol,oS]
  rw[show((0:Nat):Int)=0 from rfl]at a3 d3
  rw[a3]
  rw[show(0:Int)=((0:Nat):Int)from rfl,c3 _ (q1e b3 ls)]
  exact d3
 ·rw[d2]
  constructor
  ·rintro⟨hx,⟨u,j,r,w,g1,g2,_,g3,g4⟩,hk⟩
   refine⟨hx,⟨u,w, ?_, ?_, ?_⟩,fun k hk'=> ?_⟩
   ·rw[k1X g1];exact List.mem_map.2 ⟨_,List.mem_of_getElem? g2,by simp⟩
   ·have hu:u<n:=by have:=(gE.1 g1).1;rw[hT.1]at this;exact this
    exact(same x u hx hu).1 g3.symm
   ·have hw:=hT.2.1 r (List.mem_of_getElem? g1) _ (List.mem_of_getElem? g2)
    exact(same x w hx (by omega)).1 g4.symm
   ·obtain⟨u,u1,u2,u3⟩:=hk k ls[k] (q0a hk')
    refine⟨u,(same x u hx u1).1 u2.symm, ?_⟩
    show inB (ls.getD k []) u
    rw[lG,q0a hk']
    exact u3
  ·rintro⟨hx,⟨u,w,g1,g2,g3⟩,hk⟩
   have huw:=w1Q hT ((q0J hT).1 g1)
   have hm1:=(q0J hT).1 g1
   have hr:rows[u]? =some (rows.getD u (false,[])):=by
    rw[lG,List.getElem?_eq_getElem (by rw[hT.1];exact huw.1)];rfl
   obtain⟨j,hj⟩:=List.mem_iff_getElem?.1 hm1
   refine⟨hx,⟨u,j,_,w,hr,hj, .inl huw.1,((same x u hx huw.1).2 g2).symm,((same x w hx huw.2).2 g3).symm⟩,fun k T hkT=> ?_⟩
   have hkl:=(gE.1 hkT).1
   obtain⟨t,t1,t2⟩:=hk k hkl
   replace t2:inB (ls.getD k []) t:=t2
   rw[lG,hkT]at t2
   have htn:t<n:=by
    have h1:=(gE.1 (show T[t]? =some true from t2)).1
    rw[hs T (List.mem_of_getElem? hkT)]at h1;exact h1
   exact⟨t,htn,((same x t hx htn).2 t1).symm,t2⟩
end
theorem J0N{α β:Type}{g:α->β}(hg: ∀x y,g x=g y->x=y): ∀{l l':List α},l.map g=l'.map g->l=l'
 | [],[],_=>rfl
 | [],_::_,h=>by cases h
 |_::_,[],h=>by cases h
 |x::l,y::l',h=>by
  simp only[List.map_cons,List.cons.injEq]at h
  rw[hg x y h.1,J0N hg h.2]
theorem K1l{x y:Int}(h:uI x=uI y):x=y:=by injection h with h;injection h
theorem z1i{b b':Bool}{l l':List Int}(h:uIs b l=uIs b' l'):b=b'/\l=l':=by
 injection h with h1 h2
 exact⟨h1,J0N (fun x y h=>K1l h) h2⟩
theorem J1o{b b':Bool}{l l':List (Bool×List Int)}(h:uLs b l=uLs b' l'):b=b'/\l=l':=by
 injection h with h1 h2
 exact⟨h1,J0N (fun x y h=>Prod.ext (z1i h).1 (z1i h).2) h2⟩
open Classical in
noncomputable def pickZ(P:List U->Rz->Prop)(us:List U):Option Rz:=if h: ∃r,P us r then some h.choose else none
theorem k1U{P:List U->Rz->Prop}(one: ∀us r r',P us r->P us r'->r=r'){us:List U}{r:Rz}(h:P us r):pickZ P us=some r:=by
 have hx: ∃r,P us r:=⟨r,h⟩
 unfold pickZ
 rw[dif_pos hx,one us _ _ hx.choose_spec h]
theorem k1V{P:List U->Rz->Prop}{us:List U}{r:Rz}(h:pickZ P us=some r):P us r:=by
 unfold pickZ at h
 split at h
 ·rename_i hx
  cases h
  exact hx.choose_spec
 ·cases h
theorem k1W{lim:Nat}{vcall:CallT}{md:FuncId->List RM}{A:FuncId}{f1:List U->Option Rz}{f2:YCallT}(h1:CallsOK lim vcall md (fun f us=>if f=A then f1 us else none))(h2:CallsOK lim vcall md f2):CallsOK lim vcall md (fun f us=>if f=A then f1 us else f2 f us):=by
 intro f us r h H F vs hl hF hv
 by_cases hf:f=A
 ·exact h1 f us r (by simp only[if_pos hf]at h⊢;exact h) H F vs hl hF hv
 ·exact h2 f us r (by simp only[if_neg hf]at h;exact h) H F vs hl hF hv
def RevP(us:List U)(r:Rz):Prop:= ∃b n rows,us=[uLs b rows]/\n<=1000000/\Table n rows/\r= .val (uLs true (revT rows))
theorem J1p(us:List U)(r r':Rz)(h:RevP us r)(h':RevP us r'):r=r':=by
 obtain⟨b,n,rows,rfl,_,_,rfl⟩:=h
 obtain⟨b',n',rows',e,_,_,rfl⟩:=h'
 simp only[List.cons.injEq,and_true]at e
 rw[(J1o e).2]
noncomputable def yExtA:YCallT:=fun f us=>if f=82 then pickZ RevP us else yExt 8 f us
theorem j0v(lim:Nat):CallsY lim yExtA:=by
 refine k1W ?_ (J1n (A:=8) rfl rfl lim)
 intro f us r h H F vs hl hF hv
 by_cases hf:f=82
 ·subst hf
  simp only[iT]at h
  obtain⟨b,n,rows,rfl,hn,hT,rfl⟩:=k1V h
  obtain⟨v1,_,rfl,g1,rfl⟩:=hv
  obtain⟨c,rfl,g2⟩:=g1.one rfl
  obtain⟨H',k1,k2,k3⟩:=w1N (M:=MH lim) (n:=n) hl hF hn hT g2
  have hmd:md 82=[.va]:=by kernel_rfl
  refine⟨.c (.slice H.next 0 n),H',fun i=>F i\/(H.next<=i/\i<H'.next),k1,k2.next,k2.old,fun i hi=> .inl hi,fun i hi=>hi.imp id And.left,fun i hi=>hi.elim (fun h=>nL (hF i h) k2.next) And.right, ?_⟩
  rw[hmd]
  have:=k3.uc (F:=fun i=>F i\/(H.next<=i/\i<H'.next)) fun i h1 h2=> .inr ⟨h1,h2⟩
  rw[j0d,<-hT.1]at this
  refine⟨rfl, ?_⟩
  rw[hT.1]at this
  unfold revT
  rw[hT.1]
  exact this
 ·simp only[if_neg hf]at h
  cases h
noncomputable def MA:YM:=⟨yExtA⟩
theorem K1m:HasRev MA:=fun b n rows hn hT=>⟨revT rows,by
 unfold y82 yrunM
 rw[K0o]
 have:Vm.ystepR MA.ext yprog md (Vm.yrun MA.ext yprog md) 82 0 [.val (uLs b rows)] []=yExtA 82 [uLs b rows]:=by kernel_rfl
 rw[this]
 show pickZ RevP [uLs b rows]=_
 exact k1U J1p ⟨b,n,rows,rfl,hn,hT,rfl⟩,J1s hT⟩
theorem X0L{H:Heap}{F:Nat->Prop}{a:Int}{u1 u2 u3:U}{v:V}(h:UV H F (.st [uI a,u1,u2,u3]) v): ∃c1 c2 c3,v= .agg [.int .i64 a,c1,c2,c3]/\UC H F u1 [c1]/\UC H F u2 [c2]/\UC H F u3 [c3]:=by
 cases v with
 |c c=>exact absurd h.1 (by simp[U.isSt])
 |tuple _=>exact h.elim
 |agg xs=>
  obtain⟨us,e,hx⟩:=h
  cases e
  obtain⟨c0,_,rfl,_,k0,d1,_,rfl,_,k1,d2,_,rfl,_,k2,d3,_,rfl,_,k3,rfl⟩:=hx
  have:c0= .int .i64 a:=by have:=k0.2;simpa using this
  exact⟨d1,d2,d3,by rw[this],k1,k2,k3⟩
def UsP(us:List U)(r:Rz):Prop:= ∃(a:Nat) (b1:Bool) (l:List Int) (b2:Bool) (es:List E4) (b3:Bool) (xs:List (Bool×List Int)),
 us=[.st [uI (a:Int),uIs b1 l,uEs b2 es,uLs b3 xs]]/\aErr (a:Int) l es xs=0/\l.length<=1000000/\(∀x∈xs,x.2.length<=1000000)/\r= .val (setU (usefulL a l es xs))
def Leads(nx:Nat->List Nat)(P:Nat->Bool):List Nat->Prop
 | []=>True
 | [_]=>True
 |a::b::r=>b∈nx a/\P b=true/\Leads nx P (b::r)
section
variable{nx:Nat->List Nat}{P:Nat->Bool}
theorem Leads.snoc{v w:Nat}: ∀{l:List Nat},Leads nx P l->l.getLast?=some v->w∈nx v->P w=true->Leads nx P (l++[w])
 | [],_,h,_,_=>by cases h
 | [a],_,h,h1,h2=>by cases h;exact⟨h1,h2,trivial⟩
 |a::b::r,h,h0,h1,h2=>⟨h.1,h.2.1,Leads.snoc (l:=b::r) h.2.2 (by rw[<-h0,List.getLast?_cons_cons]) h1 h2⟩
theorem Leads.join{v:Nat}{r:List Nat}: ∀{l:List Nat},Leads nx P l->l.getLast?=some v->Leads nx P (v::r)->Leads nx P (l++r)
 | [],_,h,_=>by cases h
 | [a],_,h,h1=>by cases h;exact h1
 |a::b::l,h,h0,h1=>⟨h.1,h.2.1,Leads.join (l:=b::l) h.2.2 (by rw[<-h0,List.getLast?_cons_cons]) h1⟩
theorem Leads.at{a b:Nat}: ∀{l:List Nat} {i:Nat},Leads nx P l->l[i]? =some a->l[i+1]? =some b->b∈nx a/\P b=true
 | [],i,_,h,_=>by simp at h
 | [x],i,_,_,h=>by simp at h
 |x::y::l,0,h,h1,h2=>by
  simp only[List.getElem?_cons_zero,List.getElem?_cons_succ,oI]at h1 h2
  subst h1 h2;exact⟨h.1,h.2.1⟩
 |x::y::l,i+1,h,h1,h2=>by
  simp only[List.getElem?_cons_succ]at h1 h2
  exact Leads.at (l:=y::l) (i:=i) h.2.2 h1 (by simpa using h2)
end
inductive Bk (bf:Nat->Int):Nat->List Nat->Prop
 |first {v:Nat}:bf v= -1->Bk bf v [v]
 |step {v u:Nat} {l:List Nat}:bf v=(u:Int)->Bk bf u l->Bk bf v (v::l)
theorem w0g(n:Nat): ∀l:List Nat,l.Nodup->l.length<=(l.filter fun x=> !decide (x=n)).length+1
 | [],_=>Nat.zero_le _
 |x::l,h=>by
  obtain⟨h1,h2⟩:=List.nodup_cons.1 h
  by_cases e:x=n
  ·subst e
   have:l.filter (fun y=> !decide (y=x))=l:=List.filter_eq_self.2 fun y hy=>by
    have:y≠x:=fun e=>h1 (by rw[<-e];exact hy)
    simpa using this
   simp only[List.filter_cons,dY,Bool.not_true,bF,iF,this,List.length_cons]
   omega
  ·have:=w0g n l h2
   simp only[List.filter_cons,e,dF,Bool.not_false,iT,List.length_cons]
   omega
theorem Z0f: ∀(n:Nat) (l:List Nat),l.Nodup->(∀x∈l,x<n)->l.length<=n
 | 0,l,_,h=>by
  cases l with
  |nil=>exact Nat.zero_le _
  |cons x l=>have:=h x (by simp);omega
 |n+1,l,h1,h2=>by
  have:=w0g n l h1
  have:=Z0f n (l.filter fun x=> !decide (x=n)) (h1.filter _) fun x hx=>by
   obtain⟨g1,g2⟩:=List.mem_filter.1 hx
   have:=h2 x g1
   have:x≠n:=by simpa using g2
   omega
  omega
structure WM (nx:Nat->List Nat) (P:Nat->Bool) (src:Nat->Prop) (n:Nat) (bf:Nat->Int) (mk:List Nat):Prop where
 nd:mk.Nodup
 lt: ∀x∈mk,x<n
 iff: ∀x,bf x≠ -2↔x∈mk
 bk: ∀(i v:Nat),mk[i]? =some v->(bf v= -1/\src v)\/ ∃j u,j<i/\mk[j]? =some u/\bf v=(u:Int)/\v∈nx u/\P v=true
def upd(bf:Nat->Int)(w:Nat)(x:Int):Nat->Int:=fun u=>if u=w then x else bf u
section
variable{nx:Nat->List Nat}{P:Nat->Bool}{src:Nat->Prop}{n:Nat}{bf:Nat->Int}{mk:List Nat}
theorem WM.nil:WM nx P src n (fun _=> -2) []:=⟨.nil,fun x h=>(by cases h),fun x=>(by simp),fun i v h=>(by simp at h)⟩
theorem WM.len(h:WM nx P src n bf mk):mk.length<=n:=Z0f n mk h.nd h.lt
theorem WM.val(h:WM nx P src n bf mk)(v:Nat):bf v= -2\/bf v= -1\/ ∃u:Nat,bf v=(u:Int):=by
 by_cases e:bf v= -2
 ·exact .inl e
 ·obtain⟨i,hi⟩:=List.mem_iff_getElem?.1 ((h.iff v).1 e)
  rcases h.bk i v hi with⟨g,_⟩ |⟨j,u,_,_,g,_⟩
  ·exact .inr (.inl g)
  ·exact .inr (.inr ⟨u,g⟩)
theorem WM.add(h:WM nx P src n bf mk){w:Nat}(hw:w<n)(hn:bf w= -2){x:Int}(hx:(x= -1/\src w)\/ ∃u,u∈mk/\x=((u:Nat):Int)/\w∈nx u/\P w=true):WM nx P src n (upd bf w x) (mk++[w]):=by
 have hwm:w∉mk:=fun e=>(h.iff w).2 e hn
 refine⟨List.nodup_append.2 ⟨h.nd,by simp,fun a ha b hb e=>by simp at hb;subst hb;exact hwm (by rw[<-e];exact ha)⟩,fun y hy=> ?_,fun y=> ?_,fun i v hi=> ?_⟩
 ·rcases mA.1 hy with g |g
  ·exact h.lt y g
  ·simp at g;omega
 ·unfold upd
  by_cases e:y=w
  ·subst e
   simp only[iT,mA,List.mem_singleton,or_true,iff_true]
   rcases hx with⟨g,_⟩ |⟨u,_,g,_⟩<;>omega
  ·simp only[if_neg e,mA,List.mem_singleton,e,or_false]
   exact h.iff y
 ·have keep: ∀u,u∈mk->upd bf w x u=bf u:=fun u hu=>by
   unfold upd
   rw[if_neg fun e=>hwm (by rw[<-e];exact hu)]
  by_cases hlt:i<mk.length
  ·rw[List.getElem?_append_left hlt]at hi
   have hv:=List.mem_of_getElem? hi
   rw[keep v hv]
   rcases h.bk i v hi with g |⟨j,u,g1,g2,g3⟩
   ·exact .inl g
   ·exact .inr ⟨j,u,g1,by rw[List.getElem?_append_left (by omega)];exact g2,g3⟩
  ·rw[List.getElem?_append_right (by omega)]at hi
   have hi0:i - mk.length=0:=by
    have:=(gE.1 hi).1
    simp at this;omega
   rw[hi0]at hi
   simp at hi
   subst hi
   have e:upd bf w x w=x:=by simp[upd]
   rw[e]
   rcases hx with g |⟨u,g1,g2,g3⟩
   ·exact .inl g
   ·obtain⟨j,hj⟩:=List.mem_iff_getElem?.1 g1
    have hjl:=(gE.1 hj).1
    exact .inr ⟨j,u,by omega,by rw[List.getElem?_append_left hjl];exact hj,g2,g3⟩
theorem WM.back(h:WM nx P src n bf mk)(i:Nat): ∀v:Nat,mk[i]? =some v-> ∃l,Bk bf v l/\l.length<=i+1/\(∃s,l.getLast?=some s/\src s)/\l.head?=some v/\Leads nx P l.reverse/\ ∀x∈l,x<n:=by
 induction i using Nat.strongRecOn with
 |_ i ih=>
  intro v hv
  have hvn:=h.lt v (List.mem_of_getElem? hv)
  rcases h.bk i v hv with⟨g1,g2⟩ |⟨j,u,g1,g2,g3,g4,g5⟩
  ·exact⟨[v], .first g1,by simp,⟨v,rfl,g2⟩,rfl,trivial,fun x hx=>by simp at hx;omega⟩
  ·obtain⟨l,l1,l2,⟨s,l3,l3'⟩,l4,l5,l6⟩:=ih j g1 u g2
   refine⟨v::l, .step g3 l1,by simp;omega,⟨s, ?_,l3'⟩,rfl, ?_,fun x hx=> ?_⟩
   ·rw[List.getLast?_cons,l3];rfl
   ·rw[List.reverse_cons]
    exact l5.snoc (by rw[List.getLast?_reverse];exact l4) g4 g5
   ·rcases mC.1 hx with e |e
    ·omega
    ·exact l6 x e
end
structure WayR (nx:Nat->List Nat) (P Q:Nat->Bool) (src:Nat->Prop) (n m:Nat) (l:List Nat):Prop where
 lead:Leads nx P l
 first: ∃s,l.head?=some s/\src s
 last: ∃w,l.getLast?=some w/\Q w=true
 len:m+1<=l.length/\l.length<=n+1
 lt: ∀x∈l,x<n
def NoWay(nx:Nat->List Nat)(P Q:Nat->Bool)(src:Nat->Prop)(m:Nat):Prop:=
 (m=0-> ∀s,src s->Q s=false)/\ ∀s u w,src s->Rch (fun x=>(nx x).filter P) s u->w∈nx u->P w=true->Q w=false
structure WS (rows:List (Bool×List Int)) (n:Nat) (P Q:Nat->Bool) (src:Nat->Prop) (bf:Nat->Int) (mk:List Nat) (q:List Int) (cur:Option (Nat×Nat)):Prop where
 m:WM (nxL rows) P src n bf mk
 ops: ∀x∈q,∃j:Nat,x=j/\j∈mk
 src: ∀s,src s->s∈mk
 all: ∀x∈mk,(x:Int)∈q\/(∀y∈nxL rows x,P y=true->y∈mk/\Q y=false)\/ ∃k,cur=some (x,k)
 cur: ∀x k,cur=some (x,k)->x∈mk/\ ∀j y:Nat,j<k->(rows.getD x (false,[])).2[j]? =some (y:Int)->P y=true->y∈mk/\Q y=false
section
variable{rows:List (Bool×List Int)}{n:Nat}{P Q:Nat->Bool}{src:Nat->Prop}{bf:Nat->Int}{mk:List Nat}{q:List Int}(hT:Table n rows)
theorem WS.done(h:WS rows n P Q src bf mk [] none){s u w:Nat}(hs:src s)(hr:Rch (fun x=>(nxL rows x).filter P) s u)(hw:w∈nxL rows u)(hp:P w=true):Q w=false:=by
 have key: ∀a b,Rch (fun x=>(nxL rows x).filter P) a b->a∈mk->b∈mk:=by
  intro a b hab
  induction hab with
  |refl=>exact id
  |step g1 _ ih=>
   intro ha
   obtain⟨g2,g3⟩:=List.mem_filter.1 g1
   rcases h.all _ ha with g |g |⟨k,g⟩
   ·simp at g
   ·exact ih (g _ g2 g3).1
   ·cases g
 rcases h.all u (key s u hr (h.src s hs))with g |g |⟨k,g⟩
 ·simp at g
 ·exact(g w hw hp).2
 ·cases g
theorem WS.take{x:Nat}(h:WS rows n P Q src bf mk ((x:Int)::q) none):WS rows n P Q src bf mk q (some (x,0)):=by
 obtain⟨j,hj,hjm⟩:=h.ops x (by simp)
 have hxm:x∈mk:=by rw[show x=j by omega];exact hjm
 refine⟨h.m,fun z hz=>h.ops z (by simp[hz]),h.src,fun z hz=> ?_,fun z k e=> ?_⟩
 ·rcases h.all z hz with g |g |⟨k,g⟩
  ·rcases mC.1 g with g |g
   ·exact .inr (.inr ⟨0,by rw[show z=x by omega]⟩)
   ·exact .inl g
  ·exact .inr (.inl g)
  ·cases g
 ·cases e;exact⟨hxm,fun j y hj=>absurd hj (Nat.not_lt_zero _)⟩
include hT in
theorem WS.left{x k:Nat}(h:WS rows n P Q src bf mk q (some (x,k)))(hk:(rows.getD x (false,[])).2.length<=k):WS rows n P Q src bf mk q none:=
 ⟨h.m,h.ops,h.src,fun z hz=>by
  rcases h.all z hz with g |g |⟨k',g⟩
  ·exact .inl g
  ·exact .inr (.inl g)
  ·cases g
   refine .inr (.inl fun y hy=> ?_)
   obtain⟨j,hj⟩:=List.mem_iff_getElem?.1 ((q0J hT).1 hy)
   have hjl:=(gE.1 hj).1
   exact(h.cur x k rfl).2 j y (by omega) hj,fun z k' e=>(by cases e)⟩
theorem WS.skip{x k y:Nat}(h:WS rows n P Q src bf mk q (some (x,k)))(hk:(rows.getD x (false,[])).2[k]? =some (y:Int))(hy:P y=true->y∈mk/\Q y=false):WS rows n P Q src bf mk q (some (x,k+1)):=
 ⟨h.m,h.ops,h.src,fun z hz=>by
  rcases h.all z hz with g |g |⟨k',g⟩
  ·exact .inl g
  ·exact .inr (.inl g)
  ·cases g;exact .inr (.inr ⟨k+1,rfl⟩),fun z k' e=>by
  cases e
  refine⟨(h.cur x k rfl).1,fun j y' hj hj'=> ?_⟩
  by_cases hjk:j<k
  ·exact(h.cur x k rfl).2 j y' hjk hj'
  ·have:j=k:=by omega
   subst this
   rw[hk]at hj'
   have:y=y':=by have:=Option.some.inj hj';omega
   rw[<-this];exact hy⟩
include hT in
theorem WS.mark{x k y:Nat}(h:WS rows n P Q src bf mk q (some (x,k)))(hk:(rows.getD x (false,[])).2[k]? =some (y:Int))(hyn:y<n)(hp:P y=true)(hq:Q y=false)(hb:bf y= -2):
  WS rows n P Q src (upd bf y (x:Int)) (mk++[y]) (q++[(y:Int)]) (some (x,k+1)):=by
 obtain⟨hx,hc⟩:=h.cur x k rfl
 have hym:y∈nxL rows x:=(q0J hT).2 (List.mem_of_getElem? hk)
 refine⟨h.m.add hyn hb (.inr ⟨x,hx,rfl,hym,hp⟩),fun z hz=> ?_,fun s hs=>mA.2 (.inl (h.src s hs)),fun z hz=> ?_,fun z k' e=> ?_⟩
 ·rcases mA.1 hz with g |g
  ·obtain⟨j,g1,g2⟩:=h.ops z g
   exact⟨j,g1,mA.2 (.inl g2)⟩
  ·exact⟨y,by simpa using g,by simp⟩
 ·rcases mA.1 hz with g |g
  ·rcases h.all z g with g |g |⟨k',g⟩
   ·exact .inl (mA.2 (.inl g))
   ·exact .inr (.inl fun y' hy' hp'=>⟨mA.2 (.inl (g y' hy' hp').1),(g y' hy' hp').2⟩)
   ·cases g;exact .inr (.inr ⟨k+1,rfl⟩)
  ·have:z=y:=by simpa using g
   exact .inl (by rw[this];simp)
 ·cases e
  refine⟨mA.2 (.inl hx),fun j y' hj hj' hp'=> ?_⟩
  by_cases hjk:j<k
  ·exact⟨mA.2 (.inl (hc j y' hjk hj' hp').1),(hc j y' hjk hj' hp').2⟩
  ·have:j=k:=by omega
   subst this
   rw[hk]at hj'
   have:y=y':=by have:=Option.some.inj hj';omega
   subst this
   exact⟨by simp,hq⟩
theorem WS.found{x k y:Nat}(h:WS rows n P Q src bf mk q (some (x,k)))(hy:y∈nxL rows x)(hyn:y<n)(hp:P y=true)(hq:Q y=true){m:Nat}(hm:m<=1):
  ∃l,Bk bf x l/\l.length<=n/\WayR (nxL rows) P Q src n m (l.reverse++[y]):=by
 obtain⟨i,hi⟩:=List.mem_iff_getElem?.1 (h.cur x k rfl).1
 obtain⟨l,l1,l2,⟨s,l3,l3'⟩,l4,l5,l6⟩:=h.m.back i x hi
 have hil:=(gE.1 hi).1
 have hml:=h.m.len
 have hl0:1<=l.length:=by cases l with
  |nil=>cases l4
  |cons _ _=>simp
 refine⟨l,l1,by omega,l5.snoc (by rw[List.getLast?_reverse];exact l4) hy hp,⟨s, ?_,l3'⟩,⟨y,by simp,hq⟩,⟨by simp;omega,by simp;omega⟩,fun z hz=> ?_⟩
 ·rw[List.head?_append,List.head?_reverse,l3];rfl
 ·rcases mA.1 hz with g |g
  ·exact l6 z (List.mem_reverse.1 g)
  ·have:z=y:=by simpa using g
   omega
end
end Go.Proofs.Ytglkhoamnmiolaa.R
