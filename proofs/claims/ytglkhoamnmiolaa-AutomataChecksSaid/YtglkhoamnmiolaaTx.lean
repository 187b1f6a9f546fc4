/- - -/
import Derived.Test.YtglkhoamnmiolaaWc
set_option linter.all false
namespace Go.Proofs.Ytglkhoamnmiolaa.R
open Go Go.Proofs.Ytglkhoamnmiolaa.Vm
variable{M:YM}
def sI(n:Int):Option Int->Nat->List Int->Int
 |_,_,[]=>0
 |p,k,x::l=>if code n p x=0 then sI n (some x) (k+1) l else k
def eI(n:Int):Nat->List E4->Int
 |_,[]=>0
 |k,e::es=>if eOK n e=true then eI n (k+1) es else k
theorem Y0y(n:Int)(k:Nat)(e:E4)(es:List E4):eI n k (e::es)=if(btw e.f 0 (n - 1)&&btw e.t 0 (n - 1)&&btw e.n 0 4095&&btw e.v 0 4095)=true then eI n (k+1) es else k:=rfl
def lI(n:Int):Nat->List (Bool×List Int)->Int
 |_,[]=>0
 |k,l::r=>if sErr n none l.2=0 then lI n (k+1) r else k
def aIdx(a:Int)(l:List Int)(es:List E4)(xs:List (Bool×List Int)):Int:=
 if btw a 0 300=true then(if 6000<es.length\/8<xs.length then 0 else if sErr a none l=0 then(if es.all (eOK a)=true then lI a 0 xs else eI a 0 es)else sI a none 0 l)else 0
def GoesI(x:YRs)(e i:Int)(y:YRs):Prop:=(e=0->x=y)/\(e≠0->x=some (.tup [uI i,uI e]))
theorem z1a{b:Bool}{a:Int}{l:List Int}(ha:btw a 0 300=true)(hn:l.length<=1000000): ∀(d k:Nat),k+d=l.length->y63_1 M (uIs b l) a (uIs b l) (l.length:Int) (k:Int)=some (.tup [uI (sI a (prev l k) k (l.drop k)),uI (sErr a (prev l k) (l.drop k))]):=by
 intro d
 induction d with
 |zero=>
  intro k hk
  rw[w0i,dL (by omega)]
  simp[show¬((k:Int)<l.length) by omega,sErr,sI]
 |succ d ih=>
  intro k hk
  have hlt:k<l.length:=by omega
  have h1:=ih (k+1) (by omega)
  rw[j0R hlt]at h1
  have hlit:=fun a b=>J0z (M:=M) [a,b] (by simp)
  simp only[List.map_cons,List.map_nil,uI]at hlit
  rw[w0i,List.drop_eq_getElem_cons hlt]
  have hq:(if(decide ((0:Int)<(k:Int)))=true then
    (U.idx 1 (uIs b l) (if 0>(IntKind.wrap .i64 ((k:Int) - 1))then 0 else(IntKind.wrap .i64 ((k:Int) - 1)))).bind fun v10=>
    (U.cell v10 0).bind fun c11=>(U.asI .i64 c11).bind fun n12=>some (decide (l[k]<=n12))
   else some (decide ((0:Int)<(k:Int))))=some ((prev l k).any fun y=>decide (l[k]<=y)):=by
   by_cases h0:k=0
   ·subst h0;simp[prev]
   ·have hw:IntKind.wrap .i64 ((k:Int) - 1)=((k - 1:Nat):Int):=by rw[j0M (by omega) (by omega)];omega
    have hp:prev l k=some l[k - 1]:=by unfold prev;rw[if_neg h0];exact q0a (by omega)
    simp only[show((0:Int)<k) by omega,dY,iT,hw,show¬((0:Int)>((k - 1:Nat):Int)) by omega,iF,q0w (b:=b) (q0a (show k - 1<l.length by omega)),oS,cell_c,asI_c,hp,Option.any_some]
  simp only[show((k:Int)<l.length) by omega,dY,iT,q0w (q0a hlt),oS,cell_c,asI_c,j0x ha,Q0H,toU_val,asB_c,Q0I]
  rw[hq]
  simp only[oS,Q0I,toU_val,asI_c,hlit,q0b (show k<=1000000000 by omega),sErr,sI]
  have hc:firstErr [if(!btw l[k] 0 (a - 1))=true then 3 else 0,if((prev l k).any fun y=>decide (l[k]<=y))=true then 13 else 0]=code a (prev l k) l[k]:=by
   unfold code
   by_cases hb:btw l[k] 0 (a - 1)=true
   ·by_cases hy:((prev l k).any fun y=>decide (l[k]<=y))=true<;>simp[hb,hy,firstErr]
   ·simp only[Bool.not_eq_true]at hb;simp[hb,firstErr]
  rw[hc]
  by_cases h0:code a (prev l k) l[k]=0
  ·simp only[h0,dY,Bool.not_true,bF,iF,iT]
   exact h1
  ·simp only[h0,dF,Bool.not_false,iT,iF]
theorem k1T{b:Bool}{a:Int}{l:List Int}(ha:btw a 0 300=true)(hn:l.length<=1000000):y63 M (uIs b l) a=some (.tup [uI (sI a none 0 l),uI (sErr a none l)]):=by
 have h:=z1a (M:=M) (b:=b) ha hn l.length 0 (by omega)
 rw[k1R]
 simp only[len_uIs,oS]
 exact h
section
variable{a:Int}{b1 b2 b3:Bool}{l:List Int}{es:List E4}{xs:List (Bool×List Int)}(ha:btw a 0 300=true)(hl:l.length<=1000000)(he:es.length<=1000000)(hn:xs.length<=1000000)(hx: ∀x∈xs,x.2.length<=1000000)
include ha
theorem z1b(hn:xs.length<=1000000)(hx: ∀x∈xs,x.2.length<=1000000){a1 a2 a3:U}: ∀(d k:Nat),k+d=xs.length->y25_2 M a a1 a2 a3 (uLs b3 xs) (xs.length:Int) (k:Int)=some (.tup [uI (lI a k (xs.drop k)),uI (lErr a (xs.drop k))]):=by
 intro d
 induction d with
 |zero=>
  intro k hk
  rw[w0d,dL (by omega)]
  simp[show¬((k:Int)<xs.length) by omega,lErr,lI]
 |succ d ih=>
  intro k hk
  have hlt:k<xs.length:=by omega
  have h1:=ih (k+1) (by omega)
  have h2:=k1T (M:=M) (b:=xs[k].1) ha (hx _ (lM hlt))
  rw[w0d,List.drop_eq_getElem_cons hlt]
  simp only[show((k:Int)<xs.length) by omega,dY,iT,q0W (q0a hlt),oS,cell_uIs,h2,asTup_tup,List.getElem?_cons_zero,List.getElem?_cons_succ,asI_c,q0b (show k<=1000000000 by omega),lErr,lI]
  by_cases h0:sErr a none xs[k].2=0
  ·simp only[h0,dY,Bool.not_true,bF,iF,iT]
   exact h1
  ·simp only[h0,dF,Bool.not_false,iT,iF]
theorem z1c(he:es.length<=1000000){a1 a3:U}: ∀(d k:Nat),k+d=es.length->GoesI (y25_1 M a a1 (uEs b2 es) (uLs b3 xs) (uEs b2 es) (es.length:Int) (k:Int)) (eAll a (es.drop k)) (eI a k (es.drop k)) (y25_2 M a a1 (uEs b2 es) (uLs b3 xs) (uLs b3 xs) (xs.length:Int) 0):=by
 intro d
 induction d with
 |zero=>
  intro k hk
  rw[w0c,dL (by omega)]
  simp only[show¬((k:Int)<es.length) by omega,dF,bF,iF,len_uLs,oS,w0t]
  exact⟨fun _=>rfl,fun h=>absurd rfl h⟩
 |succ d ih=>
  intro k hk
  have hlt:k<es.length:=by omega
  obtain⟨f,f0,f1,f2,f3,f4⟩:=j0V es[k]
  have ih':=ih (k+1) (by omega)
  rw[w0c,List.drop_eq_getElem_cons hlt]
  simp only[show((k:Int)<es.length) by omega,dY,iT,k0R (q0a hlt),oS,f0,f1,f2,f3,f4,i_uI,j0x ha,Q0H,toU_val,asB_c,q0b (show k<=1000000000 by omega),k0t,Y0y]
  cases h1:btw es[k].f 0 (a - 1)with
  |false=>simp only[Bool.not_false,iT,oS,Bool.true_eq_false,iF,Bool.false_and,bF];exact⟨fun h=>(by cases h),fun _=>rfl⟩
  |true=>
   cases h2:btw es[k].t 0 (a - 1)with
   |false=>simp only[Bool.not_true,Bool.not_false,iT,oS,Bool.true_eq_false,iF,Bool.true_and,Bool.false_and,bF];exact⟨fun h=>(by cases h),fun _=>rfl⟩
   |true=>
    cases h3:btw es[k].n 0 4095 with
    |false=>simp only[Bool.not_true,Bool.not_false,iT,oS,Bool.true_eq_false,iF,Bool.true_and,Bool.false_and,bF];exact⟨fun h=>(by cases h),fun _=>rfl⟩
    |true=>
     cases h4:btw es[k].v 0 4095 with
     |false=>simp only[Bool.not_true,Bool.not_false,iT,oS,Bool.true_eq_false,iF,Bool.true_and,Bool.false_and,bF];exact⟨fun h=>(by cases h),fun _=>rfl⟩
     |true=>simp only[Bool.not_true,iT,oS,Bool.true_and,bF,iF];exact ih'
theorem z1d(hn:xs.length<=1000000)(hx: ∀x∈xs,x.2.length<=1000000){a1 a2:U}{i:Nat}(hi:i<xs.length): ∀(d k:Nat),k+d=xs[i].2.length->GoesI (y27_4 M a a1 a2 (uLs b3 xs) (i:Int) (k:Int)) (sErr a (prev xs[i].2 k) (xs[i].2.drop k)) (i:Int) (y27_3 M a a1 a2 (uLs b3 xs) ((i+1:Nat):Int)):=by
 have hxi:=hx _ (lM hi)
 intro d
 induction d with
 |zero=>
  intro k hk
  rw[w0h,dL (by omega)]
  simp only[q0W (q0a hi),oS,cell_uIs,len_uIs,show¬((k:Int)<xs[i].2.length) by omega,dF,bF,iF,q0b (show i<=1000000000 by omega),sErr]
  exact⟨fun _=>rfl,fun h=>absurd rfl h⟩
 |succ d ih=>
  intro k hk
  have hlt:k<xs[i].2.length:=by omega
  have ih':=ih (k+1) (by omega)
  rw[j0R hlt]at ih'
  rw[w0h,List.drop_eq_getElem_cons hlt]
  simp only[q0W (q0a hi),oS,cell_uIs,len_uIs,show((k:Int)<xs[i].2.length) by omega,dY,iT,W0T (b:=xs[i].1) ha hxi hlt,toU_val,asI_c,q0b (show k<=1000000000 by omega),sErr]
  by_cases h0:code a (prev xs[i].2 k) xs[i].2[k]=0
  ·simp only[h0,dY,Bool.not_true,bF,iF,iT]
   exact ih'
  ·simp only[h0,dF,Bool.not_false,iT,iF]
   exact⟨fun h=>absurd h h0,fun _=>rfl⟩
theorem z1e(hn:xs.length<=1000000)(hx: ∀x∈xs,x.2.length<=1000000){a1 a2:U}: ∀(d k:Nat),k+d=xs.length->y27_3 M a a1 a2 (uLs b3 xs) (k:Int)=some (.tup [uI (lI a k (xs.drop k)),uI (lErr a (xs.drop k))]):=by
 intro d
 induction d with
 |zero=>
  intro k hk
  rw[w0g,dL (by omega)]
  simp[show¬(k<xs.length) by omega,lErr,lI]
 |succ d ih=>
  intro k hk
  have hlt:k<xs.length:=by omega
  have h1:=ih (k+1) (by omega)
  have h2:=z1d (M:=M) (b3:=b3) (a1:=a1) (a2:=a2) ha hn hx hlt xs[k].2.length 0 (by omega)
  rw[List.drop_zero]at h2
  rw[w0g,List.drop_eq_getElem_cons hlt]
  simp only[len_uLs,oS,show((k:Int)<xs.length) by omega,dY,iT,lErr,lI]
  by_cases h0:sErr a none xs[k].2=0
  ·rw[if_pos h0,if_pos h0]
   have:=h2.1 h0
   rw[show((0:Nat):Int)=0 from rfl]at this
   rw[this];exact h1
  ·rw[if_neg h0,if_neg h0]
   exact h2.2 h0
theorem z1f(he:es.length<=1000000){a1:U}: ∀(d k:Nat),k+d=es.length->GoesI (y27_2 M a a1 (uEs b2 es) (uLs b3 xs) (k:Int)) (eAll a (es.drop k)) (eI a k (es.drop k)) (y27_3 M a a1 (uEs b2 es) (uLs b3 xs) 0):=by
 intro d
 induction d with
 |zero=>
  intro k hk
  rw[w0f,dL (by omega)]
  simp only[len_uEs,oS,show¬((k:Int)<es.length) by omega,dF,bF,iF,w0t]
  exact⟨fun _=>rfl,fun h=>absurd rfl h⟩
 |succ d ih=>
  intro k hk
  have hlt:k<es.length:=by omega
  obtain⟨f,f0,f1,f2,f3,f4⟩:=j0V es[k]
  have ih':=ih (k+1) (by omega)
  rw[w0f,List.drop_eq_getElem_cons hlt]
  simp only[len_uEs,oS,show((k:Int)<es.length) by omega,dY,iT,k0R (q0a hlt),f0,f1,f2,f3,f4,i_uI,j0x ha,Z0E,toU_val,asB_c,q0b (show k<=1000000000 by omega),k0t,Y0y]
  cases h1:btw es[k].f 0 (a - 1)with
  |false=>simp only[Bool.not_false,iT,oS,Bool.true_eq_false,iF,Bool.false_and,bF];exact⟨fun h=>(by cases h),fun _=>rfl⟩
  |true=>
   cases h2:btw es[k].t 0 (a - 1)with
   |false=>simp only[Bool.not_true,Bool.not_false,iT,oS,Bool.true_eq_false,iF,Bool.true_and,Bool.false_and,bF];exact⟨fun h=>(by cases h),fun _=>rfl⟩
   |true=>
    cases h3:btw es[k].n 0 4095 with
    |false=>simp only[Bool.not_true,Bool.not_false,iT,oS,Bool.true_eq_false,iF,Bool.true_and,Bool.false_and,bF];exact⟨fun h=>(by cases h),fun _=>rfl⟩
    |true=>
     cases h4:btw es[k].v 0 4095 with
     |false=>simp only[Bool.not_true,Bool.not_false,iT,oS,Bool.true_eq_false,iF,Bool.true_and,Bool.false_and,bF];exact⟨fun h=>(by cases h),fun _=>rfl⟩
     |true=>simp only[Bool.not_true,iT,oS,Bool.true_and,bF,iF];exact ih'
theorem z1g(hl:l.length<=1000000): ∀(d k:Nat),k+d=l.length->GoesI (y27_1 M a (uIs b1 l) (uEs b2 es) (uLs b3 xs) (k:Int)) (sErr a (prev l k) (l.drop k)) (sI a (prev l k) k (l.drop k)) (y27_2 M a (uIs b1 l) (uEs b2 es) (uLs b3 xs) 0):=by
 intro d
 induction d with
 |zero=>
  intro k hk
  rw[w0e,dL (by omega)]
  simp only[len_uIs,oS,show¬((k:Int)<l.length) by omega,dF,bF,iF,sErr]
  exact⟨fun _=>rfl,fun h=>absurd rfl h⟩
 |succ d ih=>
  intro k hk
  have hlt:k<l.length:=by omega
  have ih':=ih (k+1) (by omega)
  rw[j0R hlt]at ih'
  rw[w0e,List.drop_eq_getElem_cons hlt]
  simp only[len_uIs,oS,show((k:Int)<l.length) by omega,dY,iT,W0T (b:=b1) ha hl hlt,toU_val,asI_c,q0b (show k<=1000000000 by omega),sErr,sI]
  by_cases h0:code a (prev l k) l[k]=0
  ·simp only[h0,dY,Bool.not_true,bF,iF,iT]
   exact ih'
  ·simp only[h0,dF,Bool.not_false,iT,iF]
   exact⟨fun h=>absurd h h0,fun _=>rfl⟩
end
section
variable{a:Int}{b1 b2 b3:Bool}{l:List Int}{es:List E4}{xs:List (Bool×List Int)}(hl:l.length<=1000000)(he:es.length<=1000000)(hn:xs.length<=1000000)(hx: ∀x∈xs,x.2.length<=1000000)
include hl he hn hx
theorem J1h:y27 M a (uIs b1 l) (uEs b2 es) (uLs b3 xs)=some (.tup [uI (aIdx a l es xs),uI (aErr a l es xs)]):=by
 rw[k1P]
 simp only[Z0E,oS,toU_val,asB_c,len_uEs,len_uLs]
 unfold aErr aIdx
 by_cases ha:btw a 0 300=true
 ·have hq:(if(decide (6000<(es.length:Int)))=false then some (decide (8<(xs.length:Int)))else some (decide (6000<(es.length:Int))))=some (decide (6000<es.length\/8<xs.length)):=by
   by_cases h1:6000<es.length
   ·have:(6000:Int)<es.length:=by omega
    simp[h1,this]
   ·have: ¬(6000:Int)<es.length:=by omega
    by_cases h2:8<xs.length
    ·have:(8:Int)<xs.length:=by omega
     simp[h1,h2,this]
    ·have h3: ¬(8:Int)<xs.length:=by omega
     simp[h1,h2,this,h3]
  rw[hq]
  simp only[ha,Bool.not_true,bF,iF,iT,oS,dE]
  by_cases hlg:6000<es.length\/8<xs.length
  ·rw[if_pos hlg,if_pos hlg,if_pos hlg]
  ·rw[if_neg hlg,if_neg hlg,if_neg hlg]
   have h1:=z1g (M:=M) (b1:=b1) (b2:=b2) (b3:=b3) (es:=es) (xs:=xs) ha hl l.length 0 (by omega)
   rw[List.drop_zero,show prev l 0=none from rfl,show((0:Nat):Int)=0 from rfl]at h1
   by_cases h0:sErr a none l=0
   ·rw[if_pos h0,if_pos h0,h1.1 h0]
    have h2:=z1f (M:=M) (b2:=b2) (b3:=b3) (es:=es) (xs:=xs) (a1:=uIs b1 l) ha he es.length 0 (by omega)
    rw[List.drop_zero,show((0:Nat):Int)=0 from rfl]at h2
    have he3:eAll a es=if es.all (eOK a)=true then 0 else 3:=rfl
    rw[he3]at h2
    by_cases h3:es.all (eOK a)=true
    ·rw[if_pos h3]at h2
     rw[if_pos h3,if_pos h3]
     rw[h2.1 rfl]
     have h4:=z1e (M:=M) (b3:=b3) (xs:=xs) (a1:=uIs b1 l) (a2:=uEs b2 es) ha hn hx xs.length 0 (by omega)
     rw[List.drop_zero,show((0:Nat):Int)=0 from rfl]at h4
     exact h4
    ·rw[if_neg h3]at h2
     rw[if_neg h3,if_neg h3]
     exact h2.2 (by decide)
   ·rw[if_neg h0,if_neg h0];exact h1.2 h0
 ·simp only[Bool.not_eq_true]at ha
  simp only[ha,Bool.not_false,iT,bF,iF]
theorem J1i:y25 M a (uIs b1 l) (uEs b2 es) (uLs b3 xs)=some (.tup [uI (aIdx a l es xs),uI (aErr a l es xs)]):=by
 rw[k1N]
 have hq:(if(decide (6000<(es.length:Int)))=false then some (decide (8<(xs.length:Int)))else some (decide (6000<(es.length:Int))))=some (decide (6000<es.length\/8<xs.length)):=by
  by_cases h1:6000<es.length
  ·have:(6000:Int)<es.length:=by omega
   simp[h1,this]
  ·have: ¬(6000:Int)<es.length:=by omega
   by_cases h2:8<xs.length
   ·have:(8:Int)<xs.length:=by omega
    simp[h1,h2,this]
   ·have h3: ¬(8:Int)<xs.length:=by omega
    simp[h1,h2,this,h3]
 have hlit:=fun a b=>J0z (M:=M) [a,b] (by simp)
 simp only[List.map_cons,List.map_nil,uI]at hlit
 simp only[len_uEs,len_uLs,oS]
 rw[hq]
 simp only[oS,Q0H,toU_val,asB_c,Q0I,asI_c,hlit,dE]
 unfold aErr aIdx
 by_cases ha:btw a 0 300=true
 ·by_cases hlg:6000<es.length\/8<xs.length
  ·simp only[ha,Bool.not_true,bF,iF,if_pos hlg,firstErr,iT]
   rfl
  ·simp only[ha,Bool.not_true,bF,iF,if_neg hlg,firstErr,iT,dY]
   have h1:=k1T (M:=M) (b:=b1) ha hl
   simp only[h1,oS,asTup_tup,List.getElem?_cons_zero,List.getElem?_cons_succ,asI_c]
   by_cases h0:sErr a none l=0
   ·simp only[h0,dY,Bool.not_true,bF,iF,iT]
    have h2:=z1c (M:=M) (b2:=b2) (b3:=b3) (es:=es) (xs:=xs) (a1:=uIs b1 l) (a3:=uLs b3 xs) ha he es.length 0 (by omega)
    rw[List.drop_zero,show((0:Nat):Int)=0 from rfl]at h2
    have he3:eAll a es=if es.all (eOK a)=true then 0 else 3:=rfl
    rw[he3]at h2
    by_cases h3:es.all (eOK a)=true
    ·rw[if_pos h3]at h2
     rw[if_pos h3,if_pos h3]
     rw[h2.1 rfl]
     have h4:=z1b (M:=M) (b3:=b3) (xs:=xs) (a1:=uIs b1 l) (a2:=uEs b2 es) (a3:=uLs b3 xs) ha hn hx xs.length 0 (by omega)
     rw[List.drop_zero,show((0:Nat):Int)=0 from rfl]at h4
     exact h4
    ·rw[if_neg h3]at h2
     rw[if_neg h3,if_neg h3]
     exact h2.2 (by decide)
   ·simp only[h0,dF,Bool.not_false,iT,iF]
 ·simp only[Bool.not_eq_true]at ha
  simp only[ha,Bool.not_false,iT,bF,iF,firstErr]
  rfl
end
end Go.Proofs.Ytglkhoamnmiolaa.R
