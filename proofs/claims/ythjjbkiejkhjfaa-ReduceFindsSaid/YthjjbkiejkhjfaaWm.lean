/- - -/
import Derived.Test.YthjjbkiejkhjfaaWl
import Derived.Test.YthjjbkiejkhjfaaWc
set_option linter.all false
namespace Go.Proofs.Ythjjbkiejkhjfaa.R
open Go Go.Proofs.Ythjjbkiejkhjfaa.Vm
variable{M:YM}
section
variable{es:List E3}
theorem find2_none{f:Int->List Int}{P:Int->Int->Bool}: ∀{l:List Int},find2 f P l=none↔ ∀i∈l,∀k∈f i,P i k=true
 | []=>by simp[find2]
 |i::l=>by
  simp only[find2,mC,forall_eq_or_imp]
  cases h:(f i).find? (fun k=> !P i k)with
  |some k=>
   have h1:=List.find?_some h
   have h2:=List.mem_of_find?_eq_some h
   simp only[bN]at h1
   simp only[reduceCtorEq,false_iff,not_and]
   intro h3
   rw[h3 k h2]at h1
   cases h1
  |none=>
   rw[List.find?_eq_none]at h
   simp only[find2_none,bN,Bool.not_eq_false]at h⊢
   exact⟨fun h3=>⟨h,h3⟩,fun h3=>h3.2⟩
theorem Z0m{l:List (Int×Int)}{m:Int×Int}:l.foldl minStep (some m)≠none:=by
 induction l generalizing m with
 |nil=>simp
 |cons x l ih=>
  simp only[List.foldl_cons,minStep]
  split<;>exact ih
theorem Z0n{l:List (Int×Int)}:l.foldl minStep none=none↔l=[]:=by
 cases l with
 |nil=>simp
 |cons x l=>
  simp only[List.foldl_cons,minStep,reduceCtorEq,iff_false]
  exact Z0m
theorem w0g{s a b:Int}:clashAt es s a b=none↔stepsL es s a=[]\/stepsL es s b=[]\/
  (
   (∀i∈stepsL es s a,∀k∈stepsL es s b,mB es (toOf es i) b (toOf es k) a=true)/\
   (∀i∈stepsL es s a,∀k∈stepsL es (toOf es i) b,tB es s b a (toOf es k)=true)/\
   (∀k∈stepsL es s b,∀i∈stepsL es (toOf es k) a,tB es s a b (toOf es i)=true)):=by
 unfold clashAt
 by_cases h1:stepsL es s a=[]
 ·simp[h1]
 by_cases h2:stepsL es s b=[]
 ·simp[h2]
 have e:((stepsL es s a).isEmpty||(stepsL es s b).isEmpty)=false:=by
  cases h3:stepsL es s a with
  |nil=>exact absurd h3 h1
  |cons=>cases h4:stepsL es s b with
   |nil=>exact absurd h4 h2
   |cons=>rfl
 rw[e]
 simp only[bF,iF,h1,h2,false_or]
 cases hA:find2 (fun _=>stepsL es s b) (fun i k=>mB es (toOf es i) b (toOf es k) a) (stepsL es s a)with
 |some p=>
  simp only[reduceCtorEq,false_iff]
  intro h
  rw[find2_none.2 h.1]at hA
  cases hA
 |none=>
  rw[find2_none]at hA
  cases hB:find2 (fun i=>stepsL es (toOf es i) b) (fun i k=>tB es s b a (toOf es k)) (stepsL es s a)with
  |some p=>
   simp only[reduceCtorEq,false_iff]
   intro h
   rw[find2_none.2 h.2.1]at hB
   cases hB
  |none=>
   rw[find2_none]at hB
   simp only[Option.map_eq_none_iff,Z0n,List.flatMap_eq_nil_iff,pairs3,List.map_eq_nil_iff,List.filter_eq_nil_iff,bN,Bool.not_eq_false]
   exact⟨fun h=>⟨hA,hB,h⟩,fun h=>h.2.2⟩
theorem Z0o{s a b:Int}:clashAt es s a b=none↔clashAt es s b a=none:=by
 rw[w0g,w0g]
 have h: ∀{a b:Int},(∀i∈stepsL es s a,∀k∈stepsL es s b,mB es (toOf es i) b (toOf es k) a=true)-> ∀i∈stepsL es s b,∀k∈stepsL es s a,mB es (toOf es i) a (toOf es k) b=true:=fun h i hi k hk=>by
  rw[J1F];exact h k hk i hi
 constructor
 ·rintro(h1 |h1 |⟨h1,h2,h3⟩)
  ·exact .inr (.inl h1)
  ·exact .inl h1
  ·exact .inr (.inr ⟨h h1,h3,h2⟩)
 ·rintro(h1 |h1 |⟨h1,h2,h3⟩)
  ·exact .inr (.inl h1)
  ·exact .inl h1
  ·exact .inr (.inr ⟨h h1,h3,h2⟩)
theorem z0W{a b:Int}: ∀{d s:Nat},clashL es a b d s=none↔ ∀j,s<=j->j<s+d->clashAt es (j:Int) a b=none
 | 0,s=>by simp only[clashL,true_iff];intro j h1 h2;omega
 |d+1,s=>by
  simp only[clashL]
  cases h:clashAt es (s:Int) a b with
  |some x=>
   simp only[reduceCtorEq,false_iff]
   intro h2
   rw[h2 s (nR _) (by omega)]at h
   cases h
  |none=>
   simp only[z0W (d:=d) (s:=s+1)]
   constructor
   ·intro h2 j h3 h4
    by_cases hj:j=s
    ·subst hj;exact h
    ·exact h2 j (by omega) (by omega)
   ·intro h2 j h3 h4
    exact h2 j (by omega) (by omega)
def dep(es:List E3)(N:Nat)(a b:Nat):Bool:=(clashL es (a:Int) (b:Int) N 0).isSome
theorem W0I(N a b:Nat):dep es N a b=dep es N b a:=by
 have:clashL es (a:Int) (b:Int) N 0=none↔clashL es (b:Int) (a:Int) N 0=none:=by
  rw[z0W,z0W]
  exact forall_congr' fun j=>forall_congr' fun _=>forall_congr' fun _=>Z0o
 unfold dep
 cases h1:clashL es (a:Int) (b:Int) N 0<;>cases h2:clashL es (b:Int) (a:Int) N 0<;>simp[h1,h2]at this⊢
end
def r4:Option (Int×Int×Int×Int)->Int×Int×Int×Int:=fun o=>o.getD (0,0,0,0)
def u4(x:Int×Int×Int×Int):U:= .st [uI x.1,uI x.2.1,uI x.2.2.1,uI x.2.2.2]
theorem j1A(o:Option (Int×Int×Int×Int)):resC o=some (.tup [u4 (r4 o), .c (.bool o.isSome)]):=by
 cases o<;>rfl
theorem W0J(x:Int×Int×Int×Int): ∃f,U.exact (u4 x) ks0=some f/\f 0=uI x.1/\f 1=uI x.2.1/\f 2=uI x.2.2.1/\f 3=uI x.2.2.2:=⟨_,rfl,rfl,rfl,rfl,rfl⟩
def bQ(q:Nat->Nat->Bool):U:= .st ((List.range 144).map fun j=> .c (.bool (q (j / 12) (j % 12))))
theorem k0p{q r:Nat->Nat->Bool}(h: ∀i j,i<12->j<12->q i j=r i j):bQ q=bQ r:=by
 unfold bQ
 congr 1
 refine List.map_congr_left fun j hj=> ?_
 rw[List.mem_range]at hj
 rw[h _ _ (by omega) (by omega)]
theorem K0H{q:Nat->Nat->Bool}{x y k:Nat}{v:Bool}(hx:x<12)(hy:y<12)(hk:k=12*x+y):U.setc (bQ q) k (.c (.bool v))=some (bQ fun i j=>if i=x/\j=y then v else q i j):=by
 subst hk
 have hlt:12*x+y<144:=by omega
 simp only[bQ,U.setc,U.size]
 simp[hlt]
 refine List.ext_getElem? fun j=> ?_
 rw[List.getElem?_set]
 by_cases hj:j<144
 ·by_cases hja:12*x+y=j
  ·have h1:j / 12=x:=by omega
   have h2:j % 12=y:=by omega
   simp[hja,hj,h1,h2]
  ·have h3: ¬(j / 12=x/\j % 12=y):=by omega
   simp[hja,h3,hj]
 ·have: ¬12*x+y=j:=by omega
  simp[this,hj]
theorem w1b(q:Nat->Nat->Bool):U.part (bQ q) 0 144=some (bQ q):=by
 unfold bQ U.part
 simp only[List.length_map,List.length_range]
 rw[if_pos (by omega),List.drop_zero,List.take_of_length_le (by simp)]
theorem j1B(q:Nat->Nat->Bool): ∃f,U.split 144 (bQ q)=some f/\(List.range 144).map f=(List.range 144).map fun j=> .c (.bool (q (j / 12) (j % 12))):=by
 refine⟨fun i=>((List.range 144).map fun j=>U.c (.bool (q (j / 12) (j % 12)))).getD i (.c .junk), ?_, ?_⟩
 ·simp[U.split,bQ]
 ·refine List.map_congr_left fun j hj=> ?_
  rw[List.mem_range]at hj
  simp[lG,hj]
def DD(es:List E3)(N:Nat)(i j:Nat):Bool:=if i=j then true else if j<i then dep es N i j else dep es N j i
theorem j1C(es:List E3)(N i j:Nat):DD es N i j=(decide (i=j)||dep es N i j):=by
 unfold DD
 by_cases h:i=j
 ·simp[h]
 ·by_cases h2:j<i
  ·simp[h,h2]
  ·simp[h,h2,W0I N j i]
section
variable{N:Nat}{n:Int}{b1 b2 b3:Bool}{l:List Int}{es:List E3}{u1:U}
theorem w1c(hN:N<=60)(he:es.length<=2000)(hok: ∀e∈es,eOK (N:Int) e=true)(hs:es.Pairwise lt3){a:Nat}(ha:a<12): ∀(d k:Nat) (q:Nat->Nat->Bool),k+d=a->
  y67_2 M (openU N u1 b2 es) false false false false false false false false false false false false false false false false false false false false false false false false false false false false false false false false false false false false false false false false false false false false false false false false false false false false false false false false false false false false false false false false false false false false false false false false false false false false false false false false false false false false false false false false false false false false false false false false false false false false false false false false false false false false false false false false false false false false false false false false false false false false false false false false false false false false false false false false false false false false false false false false (a:Int) (a:Int) (a:Int) (k:Int) (bQ q)=y67_1 M (openU N u1 b2 es) false false false false false false false false false false false false false false false false false false false false false false false false false false false false false false false false false false false false false false false false false false false false false false false false false false false false false false false false false false false false false false false false false false false false false false false false false false false false false false false false false false false false false false false false false false false false false false false false false false false false false false false false false false false false false false false false false false false false false false false false false false false false false false false false false false false false false false false false false false false false false false false false ((a+1:Nat):Int) (bQ fun i j=>if i=a/\k<=j/\j<a then dep es N a j else if j=a/\k<=i/\i<a then dep es N a i else q i j):=by
 intro d
 induction d with
 |zero=>
  intro k q hk
  rw[Y0x]
  simp only[show¬((k:Int)<(a:Int)) by omega,dF,bF,iF,q0a (show a<=1000000000 by omega)]
  congr 1
  refine k0p fun i j _ _=> ?_
  rw[if_neg (by omega),if_neg (by omega)]
 |succ d ih=>
  intro k q hk
  obtain⟨f,f0,_⟩:=W0J (r4 (clashL es (a:Int) (k:Int) N 0))
  rw[Y0x]
  simp only[show((k:Int)<(a:Int)) by omega,dY,iT,K1z (M:=M) (u1:=u1) (b2:=b2) hN he hok hs ha (show k<12 by omega),j1A,oS,asTup_tup,List.getElem?_cons_zero,List.getElem?_cons_succ,f0,asB_c,show(0:Int)<=(a:Int)/\(a:Int)<((12:Nat):Int)from⟨by omega,by omega⟩,show(0:Int)<=(k:Int)/\(k:Int)<((12:Nat):Int)from⟨by omega,by omega⟩,and_self,iN]
  rw[K0H ha (show k<12 by omega) (by omega)]
  simp only[oS]
  rw[K0H (show k<12 by omega) ha (by omega)]
  simp only[oS,q0a (show k<=1000000000 by omega)]
  rw[ih (k+1) _ (by omega)]
  congr 1
  refine k0p fun i j _ _=> ?_
  by_cases h1:i=a
  ·by_cases h2:j=k
   ·subst h1 h2
    rw[if_neg (by omega),if_neg (by omega),if_neg (by omega),if_pos (by omega),if_pos (by omega)]
    rfl
   ·by_cases h3:k<j/\j<a
    ·rw[if_pos (by omega),if_pos (by omega)]
    ·rw[if_neg (by omega),if_neg (by omega),if_neg (by omega),if_neg (by omega),if_neg (by omega),if_neg (by omega)]
  ·by_cases h2:j=a
   ·by_cases h3:i=k
    ·subst h2 h3
     rw[if_neg (by omega),if_neg (by omega),if_pos (by omega),if_neg (by omega),if_pos (by omega)]
     rfl
    ·by_cases h4:k<i/\i<a
     ·rw[if_neg (by omega),if_pos (by omega),if_neg (by omega),if_pos (by omega)]
     ·rw[if_neg (by omega),if_neg (by omega),if_neg (by omega),if_neg (by omega),if_neg (by omega),if_neg (by omega)]
   ·rw[if_neg (by omega),if_neg (by omega),if_neg (by omega),if_neg (by omega),if_neg (by omega),if_neg (by omega)]
def qa(es:List E3)(N a:Nat)(i j:Nat):Bool:=decide (i<a/\j<a)&&DD es N i j
theorem w1d(hN:N<=60)(he:es.length<=2000)(hok: ∀e∈es,eOK (N:Int) e=true)(hs:es.Pairwise lt3): ∀(d a:Nat),a+d=12->
  y67_1 M (openU N u1 b2 es) false false false false false false false false false false false false false false false false false false false false false false false false false false false false false false false false false false false false false false false false false false false false false false false false false false false false false false false false false false false false false false false false false false false false false false false false false false false false false false false false false false false false false false false false false false false false false false false false false false false false false false false false false false false false false false false false false false false false false false false false false false false false false false false false false false false false false false false false false false false false false false false false (a:Int) (bQ (qa es N a))=some (.val (bQ (DD es N))):=by
 intro d
 induction d with
 |zero=>
  intro a ha
  obtain⟨f,f0,f1⟩:=j1B (qa es N a)
  rw[Y0w]
  simp only[show¬((a:Int)<12) by omega,dF,bF,iF,w1b,oS,f0]
  have hb:bQ (DD es N)=bQ (qa es N a):=k0p fun i j hi hj=>by
   simp[qa,show i<a by omega,show j<a by omega]
  rw[hb]
  show some (Rz.val (.st ((List.range 144).map f)))=_
  rw[f1]
  rfl
 |succ d ih=>
  intro a ha
  have ha12:a<12:=by omega
  rw[Y0w]
  simp only[show((a:Int)<12) by omega,dY,iT,show(0:Int)<=(a:Int)/\(a:Int)<((12:Nat):Int)from⟨by omega,by omega⟩,and_self,iN]
  rw[K0H ha12 ha12 (by omega)]
  simp only[oS]
  have h2:=w1c (M:=M) (u1:=u1) (b2:=b2) hN he hok hs ha12 a 0 (fun i j=>if i=a/\j=a then true else qa es N a i j) (by omega)
  rw[show((0:Nat):Int)=0 from rfl]at h2
  rw[h2,<-ih (a+1) (by omega)]
  congr 1
  refine k0p fun i j _ _=> ?_
  unfold qa DD
  by_cases h1:i=a
  ·subst h1
   by_cases h3:j<i
   ·have h5: ¬i=j:=by omega
    have h6:j<i+1:=by omega
    simp[h3,h5,h6]
   ·by_cases h4:j=i
    ·subst h4;simp
    ·have h5: ¬(j<i+1):=by omega
     simp[h3,h4,h5]
  ·by_cases h2:j=a
   ·subst h2
    by_cases h3:i<j
    ·have h5: ¬j<i:=by omega
     have h6:i<j+1:=by omega
     simp[h1,h3,h5,h6]
    ·have h5: ¬(i<j+1):=by omega
     simp[h1,h3,h5]
   ·have h5:(i<a+1)=(i<a):=by rw[eq_iff_iff];omega
    have h6:(j<a+1)=(j<a):=by rw[eq_iff_iff];omega
    simp[h1,h2,h5,h6]
theorem K1w(hN:N<=60)(he:es.length<=2000)(hok: ∀e∈es,eOK (N:Int) e=true)(hs:es.Pairwise lt3):y67 M (openU N u1 b2 es)=some (.val (bQ (DD es N))):=by
 have h:=w1d (M:=M) (u1:=u1) (b2:=b2) hN he hok hs 12 0 (by omega)
 rw[show((0:Nat):Int)=0 from rfl]at h
 have h0:bQ (qa es N 0)=bQ fun _ _=>false:=k0p fun i j _ _=>by simp[qa]
 rw[h0]at h
 rw[W1y,<-h]
 rfl
def free(es:List E3)(N a:Nat):List Int:=picks (fun j=> !DD es N a j) 12 0
def rows(es:List E3)(N k:Nat):List (List Int):=(List.range k).map (free es N)
theorem j1D(es:List E3)(N k:Nat):rows es N (k+1)=rows es N k++[free es N k]:=by simp[rows,List.range_succ]
structure SxL (s:Sx) (xs:List (List Int)):Prop where
 es: ∃bs:List (Bool×List Int),s.es=bs.map (fun x=>uIs x.1 x.2)/\bs.map (·.2)=xs
 b:s.b=false->xs=[]
 z:s.b=true->s.sz=1
theorem SxL.nil:SxL ⟨false,0,[]⟩ []:=⟨⟨[],rfl,rfl⟩,fun _=>rfl,fun h=>by cases h⟩
theorem SxL.app{s:Sx}{xs:List (List Int)}(h:SxL s xs){r:Sx}{x:List Int}(hr:SxI r x)(hn:xs.length<=1000000): ∃s',Sx.app s 1 [Sx.fz r]=some s'/\SxL s' (xs++[x]):=by
 obtain⟨bs,h1,h2⟩:=h.es
 have hl:s.es.length=xs.length:=by rw[h1,<-h2];simp
 refine⟨⟨true,1,s.es++[Sx.fz r]⟩,w0Q rfl ?_ (by rw[hl];exact hn),⟨bs++[(r.b,x)], ?_,by simp[h2]⟩,fun h=>(by cases h),fun _=>rfl⟩
 ·cases hb:s.b with
  |false=>exact .inl rfl
  |true=>exact .inr (h.z hb)
 ·simp[h1,hr.fz]
theorem SxL.fz{s:Sx}{xs:List (List Int)}(h:SxL s xs): ∃bs:List (Bool×List Int),s.fz=uLs s.b bs/\bs.map (·.2)=xs:=by
 obtain⟨bs,h1,h2⟩:=h.es
 exact⟨bs,by unfold Sx.fz uLs;rw[h1],h2⟩
theorem w1e(hN:N<=60)(he:es.length<=2000)(hok: ∀e∈es,eOK (N:Int) e=true){g1:U}{a:Nat}(ha:a<12): ∀(d k:Nat) (out own:Sx) (lo:List Int),k+d=12->SxI own lo->lo.length<=k->
  ∃own',SxI own' (lo++picks (fun j=> !DD es N a j) d k)/\y36_2 M (N:Int) g1 (uEs b2 es) (a:Int) (k:Int) out own=(Sx.app out 1 [Sx.fz own']).bind fun s8=>y36_1 M (N:Int) g1 (uEs b2 es) ((a+1:Nat):Int) s8:=by
 intro d
 induction d with
 |zero=>
  intro k out own lo hk ho hl
  rw[X0T]
  simp only[show¬((k:Int)<12) by omega,dF,bF,iF,picks,List.append_nil,q0a (show a<=1000000000 by omega)]
  exact⟨own,ho,rfl⟩
 |succ d ih=>
  intro k out own lo hk ho hl
  have hk12:k<12:=by omega
  obtain⟨f,f0,_⟩:=W0J (r4 (clashL es (a:Int) (k:Int) N 0))
  rw[X0T]
  simp only[show((k:Int)<12) by omega,dY,iT,picks,Q1C,q0a (show k<=1000000000 by omega),j1C]
  by_cases hak:a=k
  ·subst hak
   obtain⟨own',k1,k2⟩:=ih (a+1) out own lo (by omega) ho (by omega)
   simp only[j1C]at k1
   simp only[dY,iT,Bool.true_or,Bool.not_true,bF,iF,k2,List.nil_append]
   exact⟨own',k1,rfl⟩
  ·simp only[show¬((a:Int)=(k:Int)) by omega,hak,dF,bF,iF,K1N hN he hok,j1A,oS,asTup_tup,List.getElem?_cons_zero,List.getElem?_cons_succ,f0,asB_c,Bool.false_or]
   show∃own',SxI own' (lo++((if(!dep es N a k)=true then [(k:Int)]else [])++_))/\(if(!dep es N a k)=true then _ else _)=_
   cases hp:dep es N a k with
   |false=>
    obtain⟨s',g1',g2⟩:=ho.app (k:Int) (by omega)
    obtain⟨own',k1,k2⟩:=ih (k+1) out s' _ (by omega) g2 (by simp;omega)
    simp only[j1C]at k1
    simp only[Bool.not_false,iT,g1',oS,k2]
    exact⟨own',by simpa using k1,rfl⟩
   |true=>
    obtain⟨own',k1,k2⟩:=ih (k+1) out own lo (by omega) ho (by omega)
    simp only[j1C]at k1
    simp only[Bool.not_true,bF,iF,k2]
    exact⟨own',by simpa using k1,rfl⟩
theorem w1f(hN:N<=60)(he:es.length<=2000)(hok: ∀e∈es,eOK (N:Int) e=true){g1:U}: ∀(d a:Nat) (out:Sx),a+d=12->SxL out (rows es N a)->
  ∃out',SxL out' (rows es N 12)/\y36_1 M (N:Int) g1 (uEs b2 es) (a:Int) out=some (.sl out'):=by
 intro d
 induction d with
 |zero=>
  intro a out ha ho
  rw[X0S]
  have:a=12:=by omega
  subst this
  simp only[show¬(((12:Nat):Int)<12) by omega,dF,bF,iF]
  exact⟨out,ho,rfl⟩
 |succ d ih=>
  intro a out ha ho
  obtain⟨own',k1,k2⟩:=w1e (M:=M) (b2:=b2) hN he hok (g1:=g1) (show a<12 by omega) 12 0 out ⟨false,0,[]⟩ [] (by omega) .nil (by simp)
  obtain⟨o',g1',g2⟩:=ho.app k1 (by simp[rows];omega)
  have hr:rows es N a++[[]++picks (fun j=> !DD es N a j) 12 0]=rows es N (a+1):=by rw[j1D];rfl
  rw[hr]at g2
  obtain⟨out',j1,j2⟩:=ih (a+1) o' (by omega) g2
  rw[show((0:Nat):Int)=0 from rfl,g1',oS,j2]at k2
  rw[X0S]
  simp only[show((a:Int)<12) by omega,dY,iT,k2]
  exact⟨out',j1,rfl⟩
theorem Q1Z(hN:N<=60)(he:es.length<=2000)(hok: ∀e∈es,eOK (N:Int) e=true){g1:U}: ∃s,SxL s (rows es N 12)/\y36 M (N:Int) g1 (uEs b2 es)=some (.sl s):=by
 rw[W1g]
 exact w1f hN he hok 12 0 _ (by omega) .nil
theorem j1E{bs:List (Bool×List Int)}(h:bs.map (·.2)=rows es N 12){a:Nat}(ha:a<12): ∃b,bs[a]? =some (b,free es N a):=by
 have h1:=congrArg (fun l:List (List Int)=>l[a]?) h
 simp only[List.getElem?_map,rows,List.getElem?_range ha,Option.map_some]at h1
 obtain⟨x,h2,h3⟩:=oM.1 h1
 exact⟨x.1,by rw[h2,<-h3]⟩
theorem W0K(es:List E3)(N a:Nat):(free es N a).length<=12:=j0K _ _ _
theorem W0L{a b:Nat}(hb:b<12):decide ((b:Int)∈free es N a)= !DD es N a b:=by
 rw[Bool.eq_iff_iff,dE]
 unfold free
 rw[mem_picks]
 constructor
 ·rintro⟨j,_,_,h3,h4⟩
  have:j=b:=by omega
  subst this;exact h4
 ·intro h
  exact⟨b,by omega,by omega,rfl,h⟩
end
end Go.Proofs.Ythjjbkiejkhjfaa.R
