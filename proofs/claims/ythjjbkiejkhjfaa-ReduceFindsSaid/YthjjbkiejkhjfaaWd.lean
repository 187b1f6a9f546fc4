/- - -/
import Derived.Test.YthjjbkiejkhjfaaWb
set_option linter.all false
namespace Go.Proofs.Ythjjbkiejkhjfaa.R
open Go Go.Proofs.Ythjjbkiejkhjfaa.Vm
variable{M:YM}
structure SxI (s:Sx) (l:List Int):Prop where
 es:s.es=l.map uI
 b:s.b=false->s.es=[]
 z:s.b=true->s.sz=1
theorem SxI.nil:SxI ⟨false,0,[]⟩ []:=⟨rfl,fun _=>rfl,fun h=>by cases h⟩
theorem SxI.len{s:Sx}{l:List Int}(h:SxI s l):s.es.length=l.length:=by rw[h.es];simp
theorem SxI.scals{s:Sx}{l:List Int}(h:SxI s l):Vm.scals s.es=true:=by rw[h.es];exact k0P l
theorem SxI.fz{s:Sx}{l:List Int}(h:SxI s l):s.fz=uIs s.b l:=by unfold Sx.fz uIs;rw[h.es]
theorem SxI.app{s:Sx}{l:List Int}(h:SxI s l)(x:Int)(hn:l.length<=1000000): ∃s',Sx.app s 1 [.c (.int .i64 x)]=some s'/\SxI s' (l++[x]):=by
 refine⟨⟨true,1,s.es++[uI x]⟩,w0Q rfl ?_ (by rw[h.len];exact hn),by rw[h.es];simp,fun h=>(by cases h),fun _=>rfl⟩
 cases hb:s.b with
 |false=>exact .inl rfl
 |true=>exact .inr (h.z hb)
theorem SxI.get{s:Sx}{l:List Int}(h:SxI s l){k:Nat}(hk:k<l.length):Sx.has s 1 (k:Int)=true/\(s.es)[((k:Int)).toNat]? =some (uI l[k]):=by
 have hz:s.sz=1:=by
  cases hb:s.b with
  |false=>have h1:=h.b hb;have h2:=h.len;rw[h1]at h2;simp at h2;omega
  |true=>exact h.z hb
 refine⟨?_, ?_⟩
 ·simp only[Sx.has,h.len,hz]
  simp;omega
 ·rw[h.es,iN,List.getElem?_map,q0b hk]
  rfl
def sel(P:E3->Bool)(es:List E3):Nat->List Int
 | 0=>[]
 |k+1=>sel P es k++(if(es[k]?.any P)=true then [(k:Int)]else [])
theorem w0F(P:E3->Bool)(es:List E3): ∀k,(sel P es k).length<=k
 | 0=>nR _
 |k+1=>by
  have:=w0F P es k
  simp only[sel,List.length_append]
  split<;>simp<;>omega
theorem mem_sel{P:E3->Bool}{es:List E3}{x:Int}: ∀{k:Nat},x∈sel P es k↔ ∃j,j<k/\x=(j:Int)/\es[j]?.any P=true
 | 0=>by simp[sel]
 |k+1=>by
  simp only[sel,mA,mem_sel (k:=k)]
  constructor
  ·rintro(⟨j,h1,h2,h3⟩ |h)
   ·exact⟨j,by omega,h2,h3⟩
   ·split at h
    ·rename_i hp
     exact⟨k,by omega,by simpa using h,hp⟩
    ·cases h
  ·rintro⟨j,h1,h2,h3⟩
   by_cases hj:j=k
   ·subst hj;right;rw[if_pos h3];simp[h2]
   ·left;exact⟨j,by omega,h2,h3⟩
theorem K0m(g:E3->Int)(es:List E3)(q:Nat): ∀k,ixs g es q k=sel (fun e=>decide (g e=(q:Int))) es k
 | 0=>rfl
 |k+1=>by
  simp only[ixs,sel,K0m g es q k]
  congr 1
  cases es[k]? <;>simp
theorem Z0e{P Q:E3->Bool}{es:List E3}(h: ∀e∈es,P e=Q e): ∀k,sel P es k=sel Q es k
 | 0=>rfl
 |k+1=>by
  simp only[sel,Z0e h k]
  congr 2
  cases he:es[k]? with
  |none=>rfl
  |some e=>simp[h e (List.mem_of_getElem? he)]
def atSt(x a:Int)(e:E3):Bool:=decide (e.f=x)&&decide (e.a=a)
def stepsL(es:List E3)(x a:Int):List Int:=sel (atSt x a) es es.length
section
variable{n:Int}{b1 b2 b3:Bool}{l r:List Int}{es:List E3}
theorem k1y(he:es.length<=2000){x a g0:Int}{g1:U}: ∀(d i:Nat) (out:Sx),i+d=es.length->SxI out (sel (atSt x a) es i)->
  ∃s,y71_1 M x a g0 g1 (uEs b2 es) (i:Int) out=some (.sl s)/\SxI s (stepsL es x a):=by
 intro d
 induction d with
 |zero=>
  intro i out hi ho
  have:i=es.length:=by omega
  subst this
  rw[Y0F]
  simp only[len_uEs,oS,Int.lt_irrefl,dF,bF,iF,ho.scals,iT]
  exact⟨out,rfl,ho⟩
 |succ d ih=>
  intro i out hi ho
  have hlt:i<es.length:=by omega
  rw[Y0F]
  simp only[len_uEs,oS,show((i:Int)<es.length) by omega,dY,iT,q0l (q0b hlt),cell_uE0,cell_uE2,asI_c]
  have hq: ∀F:Bool->YRs,((if decide (es[i].f=x)=true then some (decide (es[i].a=a))else some (decide (es[i].f=x))).bind F)=F (atSt x a es[i]):=by
   intro F
   unfold atSt
   by_cases h:es[i].f=x<;>simp[h]
  rw[hq]
  have hsel:sel (atSt x a) es (i+1)=sel (atSt x a) es i++(if atSt x a es[i]=true then [(i:Int)]else []):=by simp[sel,q0b hlt]
  cases hp:atSt x a es[i]with
  |true=>
   obtain⟨s',s1,s2⟩:=ho.app (i:Int) (by have:=w0F (atSt x a) es i;omega)
   obtain⟨s,k1,k2⟩:=ih (i+1) s' (by omega) (by rw[hsel,hp];exact s2)
   simp only[iT,s1,oS,Y0G,q0a (show i<=1000000000 by omega),k1]
   exact⟨s,rfl,k2⟩
  |false=>
   obtain⟨s,k1,k2⟩:=ih (i+1) out (by omega) (by rw[hsel,hp];simpa using ho)
   simp only[bF,iF,Y0G,q0a (show i<=1000000000 by omega),k1]
   exact⟨s,rfl,k2⟩
theorem w0G(he:es.length<=2000){g0 x a:Int}{g1:U}: ∃s,y71 M g0 g1 (uEs b2 es) x a=some (.sl s)/\SxI s (stepsL es x a):=by
 rw[W1C]
 exact k1y he es.length 0 _ (by omega) SxI.nil
def enB(es:List E3)(x:Int)(a:Nat):Bool:= !(stepsL es x a).isEmpty
def enabled(es:List E3)(x:Int):List Int:=picks (enB es x) 12 0
theorem k1z(he:es.length<=2000){x g0:Int}{g1:U}: ∀(d a:Nat) (out:Sx) (lo:List Int),a+d=12->SxI out lo->lo.length<=a->
  ∃s,y42_1 M x g0 g1 (uEs b2 es) (a:Int) out=some (.sl s)/\SxI s (lo++picks (enB es x) d a):=by
 intro d
 induction d with
 |zero=>
  intro a out lo ha ho hn
  rw[Y0h]
  simp only[show¬((a:Int)<12) by omega,dF,bF,iF,ho.scals,iT,picks,List.append_nil]
  exact⟨out,rfl,ho⟩
 |succ d ih=>
  intro a out lo ha ho hn
  obtain⟨t,t1,t2⟩:=w0G (M:=M) (b2:=b2) he (g0:=g0) (x:=x) (a:=(a:Int)) (g1:=g1)
  rw[Y0h]
  simp only[show((a:Int)<12) by omega,dY,iT,t1,oS,asSl_sl,t2.len,picks]
  have hd:decide ((0:Int)<(((stepsL es x a).length:Nat):Int))=enB es x a:=by
   unfold enB
   cases stepsL es x a<;>simp
  rw[hd]
  cases hp:enB es x a with
  |true=>
   obtain⟨s',s1,s2⟩:=ho.app (a:Int) (by omega)
   obtain⟨s,k1,k2⟩:=ih (a+1) s' (lo++[(a:Int)]) (by omega) s2 (by simp;omega)
   simp only[iT,s1,oS,Y0i,q0a (show a<=1000000000 by omega),k1]
   exact⟨s,rfl,by simpa using k2⟩
  |false=>
   obtain⟨s,k1,k2⟩:=ih (a+1) out lo (by omega) ho (by omega)
   simp only[bF,iF,Y0i,q0a (show a<=1000000000 by omega),k1]
   exact⟨s,rfl,by simpa using k2⟩
theorem W0e(he:es.length<=2000){g0 x:Int}{g1:U}: ∃s,y42 M g0 g1 (uEs b2 es) x=some (.sl s)/\SxI s (enabled es x):=by
 rw[W1l]
 obtain⟨s,h1,h2⟩:=k1z (M:=M) (b2:=b2) he (x:=x) (g0:=g0) (g1:=g1) 12 0 ⟨false,0,[]⟩ [] (by omega) SxI.nil (by simp)
 exact⟨s,h1,by simpa[enabled]using h2⟩
theorem mem_picks{p:Nat->Bool}{x:Int}: ∀{d k:Nat},x∈picks p d k↔ ∃j,k<=j/\j<k+d/\x=(j:Int)/\p j=true
 | 0,k=>by simp[picks];omega
 |d+1,k=>by
  simp only[picks,mA,mem_picks (d:=d) (k:=k+1)]
  constructor
  ·rintro(h |⟨j,h1,h2,h3,h4⟩)
   ·split at h
    ·rename_i hp
     exact⟨k,by omega,by omega,by simpa using h,hp⟩
    ·cases h
   ·exact⟨j,by omega,by omega,h3,h4⟩
  ·rintro⟨j,h1,h2,h3,h4⟩
   by_cases hj:j=k
   ·subst hj;left;rw[if_pos h4];simp[h3]
   ·right;exact⟨j,by omega,by omega,h3,h4⟩
theorem k1A{v:Int}(hn:l.length<=1000000): ∀(d k:Nat),k+d=l.length->y39_1 M (uIs b1 l) v (k:Int)=some (.val (.c (.bool (decide (v∈l.drop k))))):=by
 intro d
 induction d with
 |zero=>
  intro k hk
  rw[Y0b,dL (by omega)]
  simp[show¬(k<l.length) by omega]
 |succ d ih=>
  intro k hk
  have hlt:k<l.length:=by omega
  rw[Y0b,List.drop_eq_getElem_cons hlt]
  simp only[len_uIs,show((k:Int)<l.length) by omega,dY,iT,q0m (q0b hlt),oS,cell_c,asI_c,q0a (show k<=1000000000 by omega)]
  by_cases h0:l[k]=v
  ·simp[h0]
  ·simp only[h0,dF,bF,iF,ih (k+1) (by omega),mC]
   have: ¬v=l[k]:=fun e=>h0 e.symm
   simp[this]
theorem z0N{v:Int}(hn:l.length<=1000000):y39 M (uIs b1 l) v=some (.val (.c (.bool (decide (v∈l))))):=by
 rw[W1j]
 exact k1A hn l.length 0 (by omega)
theorem k1B{v:Int}(hn:l.length<=1000000): ∀(d k:Nat),k+d=l.length-> ∃i:Int,y92_1 M (uIs b1 l) v (l.length:Int) (k:Int)=some (.val (uI i))/\decide (0<=i)=decide (v∈l.drop k):=by
 intro d
 induction d with
 |zero=>
  intro k hk
  rw[Y0M,dL (by omega)]
  exact⟨-1,by simp[show¬((k:Int)<l.length) by omega],by simp⟩
 |succ d ih=>
  intro k hk
  have hlt:k<l.length:=by omega
  rw[Y0M,List.drop_eq_getElem_cons hlt]
  simp only[show((k:Int)<l.length) by omega,dY,iT,q0m (q0b hlt),oS,cell_c,asI_c,q0a (show k<=1000000000 by omega)]
  by_cases h0:v=l[k]
  ·exact⟨k,by simp[h0],by simp[-List.getElem_cons_drop,h0]⟩
  ·obtain⟨i,h1,h2⟩:=ih (k+1) (by omega)
   exact⟨i,by simp only[h0,dF,bF,iF,h1],by rw[h2];simp[-List.getElem_cons_drop,h0]⟩
theorem Z1S{v:Int}(hn:l.length<=1000000):y60 M (uIs b1 l) v=some (.val (.c (.bool (decide (v∈l))))):=by
 obtain⟨i,h1,h2⟩:=k1B (M:=M) (b1:=b1) (v:=v) hn l.length 0 (by omega)
 rw[W1w,W1P]
 simp only[len_uIs,oS]
 rw[show((0:Nat):Int)=0 from rfl]at h1
 rw[h1]
 simp only[oS,toU_val,asI_c,h2,List.drop_zero]
theorem SxI.of_lit(l:List Int):SxI ⟨true,1,l.map uI⟩ l:=⟨rfl,fun h=>(by cases h),fun _=>rfl⟩
theorem Z1T(hw:b1=false->l=[])(hn:l.length<=1000000): ∃s,y59 M (uIs b1 l)=some (.sl s)/\SxI s l:=by
 rw[W1v]
 cases b1 with
 |false=>
  have:=hw rfl
  subst this
  exact⟨_,rfl,SxI.nil⟩
 |true=>
  have hnil:U.isNil .slice (uIs true l)=some false:=rfl
  simp only[hnil,oS,bne_self_eq_false,bF,iF]
  simp only[uIs,U.asL,oS]
  rw[K0C (by intro x hx;obtain⟨n,_,rfl⟩:=List.mem_map.1 hx;rfl) (by simpa using hn)]
  simp only[oS,k0P,iT]
  exact⟨_,rfl,SxI.of_lit l⟩
def cp(xs:List (Bool×List Int)):List (Bool×List Int):=xs.map fun x=>(true,x.2)
end
theorem q0f(N:Nat)(u1:U)(b:Bool)(es:List E3): ∃v,(openU N u1 b es).asR=some (v,0)/\U.cell v 0=some (uI N)/\U.cell v (0+1)=some u1/\U.cell v (0+2)=some (uEs b es)/\U.cell v (0+3)=some (.sl true ((tabOf gOut es N es.length).map rowU))/\U.cell v (0+4)=some (.sl true ((byU N es).map .st)):=
 ⟨_,rfl,rfl,rfl,rfl,rfl,rfl⟩
@[simp] theorem len_rowU (l:List Int):U.len (rowU l)=some l.length:=len_uIs _ _
@[simp] theorem cell_rowU (l:List Int):U.cell (rowU l) 0=some (rowU l):=rfl
theorem j0y{l:List Int}{k:Nat}{x:Int}(h:l[k]? =some x):U.idx 1 (rowU l) (k:Int)=some (uI x):=q0m (b:= !l.isEmpty) h
theorem J1t{es:List E3}{N x:Nat}(h:x<N):U.idx 1 (.sl true ((tabOf gOut es N es.length).map rowU)) (x:Int)=some (rowU (ixs gOut es x es.length)):=by
 simp only[U.idx,U.asL,oS,elU,Int.natCast_nonneg,iT,iN,List.getElem?_map,z0w h,Option.map_some]
 rfl
def toOf(es:List E3)(i:Int):Int:=(es[i.toNat]?.map (·.t)).getD 0
theorem mem_out{es:List E3}{x:Nat}{i:Int}:i∈ixs gOut es x es.length↔ ∃(j:Nat) (e:E3),i=(j:Int)/\es[j]? =some e/\e.f=(x:Int):=by
 rw[K0m,mem_sel]
 constructor
 ·rintro⟨j,h1,h2,h3⟩
  cases he:es[j]? with
  |none=>rw[he]at h3;cases h3
  |some e=>rw[he]at h3;exact⟨j,e,h2,he,of_decide_eq_true h3⟩
 ·rintro⟨j,e,h1,h2,h3⟩
  exact⟨j,(gE.1 h2).1,h1,by rw[h2];exact decide_eq_true h3⟩
section
variable{N:Nat}{es:List E3}
theorem Q1P{s:Nat}(h:s<N):U.idx 12 (.sl true ((byU N es).map .st)) (s:Int)=some (.st ((List.range 12).map fun a=>rowU (ixs gBy es (12*s+a) es.length))):=by
 have hg:(byU N es)[s]? =some ((List.range 12).map fun a=>rowU (ixs gBy es (12*s+a) es.length)):=by simp[byU,h]
 simp only[U.idx,U.asL,oS,elU,Int.natCast_nonneg,iT,iN,List.getElem?_map,hg,Option.map_some]
 simp[U.size,U.cells]
theorem J1u{s a:Nat}(h:a<12):U.cell (.st ((List.range 12).map fun a=>rowU (ixs gBy es (12*s+a) es.length))) a=some (rowU (ixs gBy es (12*s+a) es.length)):=by
 simp[U.cell,U.cells,h]
theorem W0f(hok: ∀e∈es,eOK (N:Int) e=true){s a:Nat}(h:a<12):ixs gBy es (12*s+a) es.length=stepsL es (s:Int) (a:Int):=by
 rw[K0m]
 refine Z0e (fun e he=> ?_) _
 obtain⟨⟨g1,g2,g3,g4⟩,_⟩:=q0w (hok e he)
 unfold atSt gBy
 rw[Bool.eq_iff_iff]
 simp only[dE,bA]
 omega
end
end Go.Proofs.Ythjjbkiejkhjfaa.R
