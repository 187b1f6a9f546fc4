/- - -/
import Derived.Test.YthjjbkiejkhjfaaWb
set_option linter.all false
namespace Go.Proofs.Ythjjbkiejkhjfaa.R
open Go Go.Proofs.Ythjjbkiejkhjfaa.Vm
variable{M:YM}
def bV(p:Nat->Bool):U:= .st ((List.range 12).map fun a=> .c (.bool (p a)))
theorem J1c{p:Nat->Bool}{a:Nat}(h:a<12):((List.range 12).map fun a=>U.c (.bool (p a)))[a]? =some (.c (.bool (p a))):=by
 simp[List.getElem?_map,h]
theorem J1I{p:Nat->Bool}{a:Nat}(h:a<12):U.cell (bV p) a=some (.c (.bool (p a))):=J1c h
theorem J1J{p:Nat->Bool}{a:Nat}{q:Bool}(h:a<12):U.setc (bV p) a (.c (.bool q))=some (bV fun j=>if j=a then q else p j):=by
 simp only[bV,U.setc,U.size]
 simp[h]
 refine List.ext_getElem? fun j=> ?_
 rw[List.getElem?_set]
 by_cases hj:j<12
 ·by_cases hja:a=j
  ·subst hja;simp[hj]
  ·have: ¬j=a:=fun e=>hja e.symm
   simp[hja,this,hj]
 ·have: ¬a=j:=by omega
  simp[this,hj]
theorem j1H(p:Nat->Bool): ∃f,U.struct (bV p) 0 ks3=some f/\ ∀a,a<12->f a= .c (.bool (p a)):=by
 refine⟨fun i=>((List.range 12).map fun a=>U.c (.bool (p a))).getD (0+i) (.c .junk), ?_,fun a ha=> ?_⟩
 ·simp[U.struct,bV,ks3,hasKs,U.hasK,List.range,List.range.loop]
 ·show((List.range 12).map fun a=>U.c (.bool (p a))).getD (0+a) (.c .junk)=_
  rw[Nat.zero_add,lG,J1c ha]
  rfl
def shows(lab:List Int)(a:Int)(e:E3):Bool:=decide (e.a=a)&& !decide (at0 lab e.f.toNat=at0 lab e.t.toNat)
def visB(lab:List Int)(es:List E3)(a:Nat):Bool:=es.any (shows lab a)
section
variable{N:Nat}{b1 b2 b3:Bool}{l lab:List Int}{es:List E3}
theorem w1l(hlab:lab.length=N)(he:es.length<=2000)(hok: ∀e∈es,eOK (N:Int) e=true){c0 c1 c2 c3 c4 c5 c6 c7 c8 c9 c10 c11:Bool}: ∀(d k:Nat) (p:Nat->Bool),k+d=es.length->
  y66_1 M (uIs b3 lab) c0 c1 c2 c3 c4 c5 c6 c7 c8 c9 c10 c11 (uEs b2 es) (es.length:Int) (k:Int) (bV p)=some (.val (bV fun a=>p a||visB lab (es.drop k) a)):=by
 intro d
 induction d with
 |zero=>
  intro k p hk
  obtain⟨f,f0,f1⟩:=j1H p
  rw[Y0v,dL (by omega)]
  simp only[show¬((k:Int)<es.length) by omega,dF,bF,iF,f0,oS,f1 0 (by omega),f1 1 (by omega),f1 2 (by omega),f1 3 (by omega),f1 4 (by omega),f1 5 (by omega),f1 6 (by omega),f1 7 (by omega),f1 8 (by omega),f1 9 (by omega),f1 10 (by omega),f1 11 (by omega),visB,List.any_nil,Bool.or_false]
  rfl
 |succ d ih=>
  intro k p hk
  have hlt:k<es.length:=by omega
  obtain⟨⟨g1,g2,g3,g4⟩,g5,g6⟩:=q0w (hok _ (lM hlt))
  obtain⟨f,f0,f1,f2,f3⟩:=q0t es[k]
  obtain⟨a,ha⟩:=iZ g3
  have ha12:a<12:=by omega
  rw[Y0v,List.drop_eq_getElem_cons hlt]
  have hq: ∀F:Bool->YRs,((if p a=false then
    (U.idx 1 (uIs b3 lab) es[k].f).bind fun v5=>
    (U.idx 1 (uIs b3 lab) es[k].t).bind fun v6=>
    (U.cell v5 0).bind fun c7=>
    (U.asI .i64 c7).bind fun n8=>
    (U.cell v6 0).bind fun c9=>
    (U.asI .i64 c9).bind fun n10=>some (!decide (n8=n10))
   else some (p a)).bind F)=F (p a|| !decide (at0 lab es[k].f.toNat=at0 lab es[k].t.toNat)):=by
   intro F
   simp only[Z0c (b:=b3) g1 (by omega:es[k].f<(lab.length:Int)),Z0c (b:=b3) g5 (by omega:es[k].t<(lab.length:Int)),oS,cell_c,asI_c]
   cases p a<;>simp
  simp only[show((k:Int)<es.length) by omega,dY,iT,q0l (q0b hlt),oS,f0,f1,f2,f3,i_uI,ha,iN,Nat.mul_one,Nat.zero_add,J1I ha12,asB_c,show(0:Int)<=(a:Int)/\(a:Int)<((12:Nat):Int)from⟨by omega,by omega⟩,and_self]
  rw[hq]
  simp only[J1J ha12,oS,q0a (show k<=1000000000 by omega),ih (k+1) _ (by omega)]
  congr 2
  unfold bV
  congr 1
  refine List.map_congr_left fun j _=> ?_
  simp only[visB,List.any_cons,shows,ha]
  by_cases hj:j=a
  ·subst hj
   simp[Bool.or_assoc]
  ·have: ¬(a:Int)=(j:Int):=by omega
   simp[hj,this]
theorem K1y(hlab:lab.length=N)(he:es.length<=2000)(hok: ∀e∈es,eOK (N:Int) e=true){u1:U}:y66 M (openU N u1 b2 es) (uIs b3 lab)=some (.val (bV (visB lab es))):=by
 have h1:=w1l (M:=M) (b2:=b2) (b3:=b3) (c0:=false) (c1:=false) (c2:=false) (c3:=false) (c4:=false) (c5:=false) (c6:=false) (c7:=false) (c8:=false) (c9:=false) (c10:=false) (c11:=false) hlab he hok es.length 0 (fun _=>false) (by omega)
 rw[List.drop_zero,show((0:Nat):Int)=0 from rfl]at h1
 have hl:(uEs b2 es).len=some es.length:=len_uEs _ _
 simp only[Bool.false_or]at h1
 obtain⟨v,v1,v2⟩: ∃v,(openU N u1 b2 es).asR=some (v,0)/\U.cell v (0+2)=some (uEs b2 es):=⟨_,rfl,rfl⟩
 rw[W1x]
 simp only[v1,v2,oS,hl]
 exact h1
def glErr(n:Int)(l:List Int)(es:List E3)(lab:List Int):Int:=if gErr n l es=0 then lErr n lab else gErr n l es
theorem W0P{n:Int}(h:lErr n lab=0):(lab.length:Int)=n:=by
 unfold lErr at h
 split at h
 ·assumption
 ·cases h
theorem w1m(hlab:lab.length=N)(he:es.length<=2000)(hok: ∀e∈es,eOK (N:Int) e=true){g0:Int}{g1:U}{a:Nat}{out:Sx}(ha:a<12)(hb:out.b=false\/out.sz=1)(hn:out.es.length<=1000): ∀(d k:Nat) (is:Bool),k+d=es.length->
  y32_2 M (uIs b3 lab) g0 g1 (uEs b2 es) (a:Int) is (k:Int) out=if(is||visB lab (es.drop k) a)=true then y32_1 M (uIs b3 lab) g0 g1 (uEs b2 es) ((a+1:Nat):Int) ⟨true,1,out.es++[uI a]⟩else y32_1 M (uIs b3 lab) g0 g1 (uEs b2 es) ((a+1:Nat):Int) out:=by
 intro d
 have happ:Sx.app out 1 [.c (.int .i64 (a:Int))]=some ⟨true,1,out.es++[uI a]⟩:=w0Q rfl hb (by omega)
 induction d with
 |zero=>
  intro k is hk
  rw[X0R,dL (by omega)]
  simp only[len_uEs,oS,show¬((k:Int)<es.length) by omega,dF,bF,iF,visB,List.any_nil,Bool.or_false,happ,Q1B,q0a (show a<=1000000000 by omega)]
 |succ d ih=>
  intro k is hk
  have hlt:k<es.length:=by omega
  obtain⟨⟨g1,g2,g3,g4⟩,g5,g6⟩:=q0w (hok _ (lM hlt))
  rw[X0R,List.drop_eq_getElem_cons hlt]
  simp only[len_uEs,oS,show((k:Int)<es.length) by omega,dY,iT,q0l (q0b hlt),cell_uE0,cell_uE1,cell_uE2,asI_c,Z0c (b:=b3) g1 (by omega:es[k].f<(lab.length:Int)),Z0c (b:=b3) g5 (by omega:es[k].t<(lab.length:Int)),cell_c,q0a (show k<=1000000000 by omega)]
  have hv:visB lab (es[k]::es.drop (k+1)) a=(shows lab a es[k]||visB lab (es.drop (k+1)) a):=rfl
  rw[hv]
  cases is with
  |true=>simp only[Bool.true_eq_false,iF,oS,ih (k+1) _ (by omega),Bool.true_or,iT]
  |false=>
   by_cases hA:es[k].a=(a:Int)
   ·simp only[iT,hA,dY,oS,ih (k+1) _ (by omega),shows,Bool.true_and,Bool.false_or]
   ·simp only[iT,hA,dF,bF,iF,oS,ih (k+1) _ (by omega),shows,Bool.false_and,Bool.false_or]
theorem w1n(hlab:lab.length=N)(he:es.length<=2000)(hok: ∀e∈es,eOK (N:Int) e=true){g0:Int}{g1:U}: ∀(d a:Nat) (out:Sx),a+d=12->(out.b=false\/out.sz=1)->out.es.length<=a->scals out.es=true->
  ∃s:Sx,y32_1 M (uIs b3 lab) g0 g1 (uEs b2 es) (a:Int) out=some (.sl s)/\s.es=out.es++(picks (visB lab es) d a).map uI:=by
 intro d
 induction d with
 |zero=>
  intro a out ha hb hn hs
  rw[X0Q]
  simp only[show¬((a:Int)<12) by omega,dF,bF,iF,hs,iT,picks,List.map_nil,List.append_nil]
  exact⟨out,rfl,rfl⟩
 |succ d ih=>
  intro a out ha hb hn hs
  have h2:=w1m (M:=M) (b2:=b2) (b3:=b3) (g0:=g0) (g1:=g1) hlab he hok (show a<12 by omega) hb (by omega) es.length 0 false (by omega)
  rw[show((0:Nat):Int)=0 from rfl,List.drop_zero,Bool.false_or]at h2
  rw[X0Q]
  simp only[show((a:Int)<12) by omega,dY,iT,h2,picks]
  cases hv:visB lab es a with
  |true=>
   have hs2:scals (out.es++[uI a])=true:=by
    have: ∀l:List U,scals l=true->scals (l++[uI a])=true:=by
     intro l
     induction l with
     |nil=>intro _;rfl
     |cons x l ih=>intro h;simp only[List.cons_append,scals,bA]at h⊢;exact⟨h.1,ih h.2⟩
    exact this _ hs
   obtain⟨s,s1,s2⟩:=ih (a+1) ⟨true,1,out.es++[uI a]⟩ (by omega) (.inr rfl) (by simp;omega) hs2
   exact⟨s,by simp only[iT,s1],by rw[s2];simp⟩
  |false=>
   obtain⟨s,s1,s2⟩:=ih (a+1) out (by omega) hb (by omega) hs
   exact⟨s,by simp only[bF,iF,s1],by rw[s2];simp⟩
theorem J1d(hlab:lab.length=N)(he:es.length<=2000)(hok: ∀e∈es,eOK (N:Int) e=true){g0:Int}{g1:U}: ∃s:Sx,y32 M g0 g1 (uEs b2 es) (uIs b3 lab)=some (.sl s)/\s.es=(picks (visB lab es) 12 0).map uI:=by
 obtain⟨s,s1,s2⟩:=w1n (M:=M) (b2:=b2) (b3:=b3) (g0:=g0) (g1:=g1) hlab he hok 12 0 ⟨false,0,[]⟩ (by omega) (.inl rfl) (by simp) rfl
 rw[W1f]
 exact⟨s,s1,by simpa using s2⟩
end
end Go.Proofs.Ythjjbkiejkhjfaa.R
