/- - -/
import Derived.Test.YtglkhoamnmiolaaWd
import Derived.Test.YtglkhoamnmiolaaKa
set_option linter.all false
namespace Go.Proofs.Ytglkhoamnmiolaa.R
open Go Go.Proofs.Ytglkhoamnmiolaa.Vm
abbrev uB(b:Bool):U:= .c (.bool b)
def uBs(l:List Bool):List U:=l.map uB
@[simp] theorem uBs_length (l:List Bool):(uBs l).length=l.length:=by simp[uBs]
theorem j0k{l:List Bool}{k:Nat}{b:Bool}(h:l[k]? =some b):(uBs l)[k]? =some (uB b):=by simp[uBs,h]
theorem q0S(l:List Bool):scals (uBs l)=true:=by
 induction l with
 |nil=>rfl
 |cons b l ih=>simp only[uBs,List.map_cons,scals]at ih⊢;rw[ih];rfl
theorem z0q{b:Bool}{l:List Bool}{k:Nat}{x:Bool}(h:l[k]? =some x):U.idx 1 (.sl b (uBs l)) (k:Int)=some (uB x):=by
 simp[U.idx,U.asL,elU,j0k h,U.size,U.cells]
theorem q0M{l:List Bool}{k:Nat}(h:k<l.length):Sx.has (⟨true,1,uBs l⟩:Sx) 1 (k:Int)=true:=by
 simp[Sx.has];omega
theorem q0T{l:List Bool}{k:Nat}{x:Bool}(h:k<l.length):Sx.put (⟨true,1,uBs l⟩:Sx) 1 k 0 (uB x)=some ⟨true,1,uBs (l.set k x)⟩:=by
 have h1:(uB x).size=1:=rfl
 have h2:k<(uBs l).length:=by rw[uBs_length];exact h
 unfold Sx.put
 rw[if_pos ⟨rfl,rfl⟩,if_pos ⟨h1,h2⟩]
 simp[uBs,List.map_set]
def cf:List Bool->Nat
 | []=>0
 |b::l=>(if b=true then 0 else 1)+cf l
theorem W0F: ∀{l:List Bool} {k:Nat},l[k]? =some false->cf (l.set k true)+1=cf l
 | [],k,h=>by simp at h
 |b::l,0,h=>by
  simp at h;subst h
  simp only[List.set_cons_zero,cf];simp;omega
 |b::l,k+1,h=>by
  have:=W0F (l:=l) (k:=k) (by simpa using h)
  simp only[List.set_cons_succ,cf];omega
theorem k0V: ∀{l:List Bool} {k:Nat},l[k]? =some true->cf (l.set k false)=cf l+1
 | [],k,h=>by simp at h
 |b::l,0,h=>by
  simp at h;subst h
  simp only[List.set_cons_zero,cf];simp;omega
 |b::l,k+1,h=>by
  have:=k0V (l:=l) (k:=k) (by simpa using h)
  simp only[List.set_cons_succ,cf];omega
theorem q1a: ∀l:List Bool,cf l<=l.length
 | []=>nR _
 |b::l=>by have:=q1a l;simp only[cf,List.length_cons];split<;>omega
structure IsOp (s:Sx) (l:List Int):Prop where
 es:s.es=l.map uI
 z:s.b=false\/s.sz=1
 b:l≠[]->s.b=true
theorem IsOp.nil:IsOp ⟨false,0,[]⟩ []:=⟨rfl, .inl rfl,fun h=>absurd rfl h⟩
theorem IsOp.app{s:Sx}{l:List Int}(h:IsOp s l)(x:Int)(hn:l.length<=1000000000): ∃s',Sx.app s 1 [uI x]=some s'/\IsOp s' (l++[x]):=by
 have hr:roomy (s.es.length+[uI x].length):=by rw[h.es];show _<=_;simp;omega
 refine⟨⟨true,1,s.es++[uI x]⟩, ?_,⟨by simp[h.es], .inr rfl,fun _=>rfl⟩⟩
 unfold Sx.app
 rw[if_pos ⟨h.z,by simp[U.size,U.cells],hr⟩,if_neg (by simp)]
theorem IsOp.len{s:Sx}{l:List Int}(h:IsOp s l):s.es.length=l.length:=by rw[h.es,List.length_map]
theorem IsOp.last{s:Sx}{l:List Int}{x:Int}(h:IsOp s (l++[x]))(hn:l.length<=1000000000):
  IntKind.wrap .i64 (((s.es.length:Nat):Int) - 1)=((l.length:Nat):Int)/\Sx.has s 1 ((l.length:Nat):Int)=true/\s.es[l.length]? =some (uI x)/\(s.sz=1/\s.b=true)/\
  ∃l4,subU 1 s.es 0 (some ((l.length:Nat):Int))=some l4/\IsOp (Sx.win s ((0:Int).toNat) l4.length) l:=by
 have hb:=h.b (by simp)
 have hz:s.sz=1:=h.z.resolve_left (by rw[hb];simp)
 have hl:s.es.length=l.length+1:=by rw[h.len];simp
 refine⟨by rw[hl,j0M (by omega) (by omega)];omega, ?_, ?_,⟨hz,hb⟩, ?_⟩
 ·simp only[Sx.has,hl,hz];simp;omega
 ·rw[h.es];simp
 ·have hall:s.es.all (fun v=>v.size==1)=true:=by rw[h.es];simp[U.size,U.cells]
  refine⟨(s.es.drop (0:Int).toNat).take (((l.length:Nat):Int) - 0).toNat, ?_, ?_⟩
  ·unfold subU
   rw[if_pos ⟨by omega,by simp,by simp only[Option.getD_some];omega,hall⟩]
   rfl
  ·have e:((s.es.drop (0:Int).toNat).take (((l.length:Nat):Int) - 0).toNat).length=l.length:=by simp;omega
   rw[e]
   refine⟨?_,h.z,fun _=>hb⟩
   show(s.es.drop (0:Int).toNat).take l.length=_
   rw[h.es];simp
def nxR(rows:List (Bool×List Int))(u v:Nat):Prop:=(u:Int)∈(rows.getD v (false,[])).2
def inB(l:List Bool)(i:Nat):Prop:=l[i]? =some true
section
variable{M:YM}{rows:List (Bool×List Int)}{P T:List Bool}{n:Nat}
def Goal(rows:List (Bool×List Int))(P T:List Bool)(i:Nat):Prop:=inB P i/\ ∃d,Rn (nxR rows) (inB P) (inB T) d i
def closed(rows:List (Bool×List Int))(P out:List Bool)(x:Nat):Prop:= ∀y:Nat,(y:Int)∈(rows.getD x (false,[])).2->inB P y->inB out y
structure RI (rows:List (Bool×List Int)) (P T:List Bool) (n:Nat) (out:List Bool) (op:List Int) (cur:Option Nat):Prop where
 len:out.length=n
 sound: ∀i,inB out i->Goal rows P T i
 src: ∀x∈op,∃j:Nat,x=j/\j<n/\inB P j/\(inB T j\/inB out j)
 all: ∀x,inB P x->(inB T x\/inB out x)->(x:Int)∈op\/closed rows P out x\/cur=some x
theorem z0c{l:List Bool}{k i:Nat}(h:inB l i):inB (l.set k true) i:=by
 unfold inB at*
 rw[List.getElem?_set]
 split
 ·rename_i e
  subst e
  rw[if_pos (gE.1 h).1]
 ·exact h
theorem q0v{l:List Bool}{k i:Nat}(hk:k<l.length):inB (l.set k true) i↔i=k\/inB l i:=by
 unfold inB
 rw[List.getElem?_set]
 by_cases e:k=i
 ·subst e;rw[if_pos rfl,if_pos hk];simp
 ·rw[if_neg e]
  exact⟨.inr,fun h=>h.resolve_left fun h=>e h.symm⟩
theorem RI.goal{out:List Bool}(h:RI rows P T n out [] none){i:Nat}:inB out i↔Goal rows P T i:=by
 refine⟨h.sound i, ?_⟩
 rintro⟨hp,d,hd⟩
 have cl: ∀w,inB P w->(inB T w\/inB out w)->closed rows P out w:=fun w h1 h2=>by
  rcases h.all w h1 h2 with h3 |h3 |h3
  ·simp at h3
  ·exact h3
  ·cases h3
 induction d generalizing i with
 |zero=>obtain⟨w,h1,h2,h3⟩:=hd;exact cl w h2 (.inl h3) i h1 hp
 |succ d ih=>obtain⟨w,h1,h2,h3⟩:=hd;exact cl w h2 (.inr (ih h2 h3)) i h1 hp
variable(hn:n<=1000000)(hr:rows.length=n)(hP:P.length=n)(hT:T.length=n)(hrows: ∀r∈rows,(∀y∈r.2,0<=y/\y<(n:Int))/\r.2.length<=1000000000)
include hn hr hP hT hrows
theorem z1F{bb:Bool}{x:Nat}(hx:x<n)(hPx:inB P x){d:Nat}(hdn:d<=2000000)
  (ih: ∀(out:List Bool) (op:List Int) (s:Sx),IsOp s op->cf out+op.length<=d->RI rows P T n out op none-> ∃out',y83_3 M (uLs bb rows) (.sl true (uBs P)) ⟨true,1,uBs out⟩ s=some (.sl ⟨true,1,uBs out'⟩)/\out'.length=n/\ ∀i,inB out' i↔Goal rows P T i):
  ∀(e k:Nat) (out:List Bool) (op:List Int) (s:Sx),k+e=(rows.getD x (false,[])).2.length->IsOp s op->cf out+op.length<=d->RI rows P T n out op (some x)->(inB T x\/inB out x)->
   (∀(j y:Nat),j<k->(rows.getD x (false,[])).2[j]? =some (y:Int)->inB P y->inB out y)->
   ∃out',y83_4 M (uLs bb rows) (.sl true (uBs P)) (x:Int) (k:Int) ⟨true,1,uBs out⟩ s=some (.sl ⟨true,1,uBs out'⟩)/\out'.length=n/\ ∀i,inB out' i↔Goal rows P T i:=by
 have hxr:rows[x]? =some (rows.getD x (false,[])):=by
  rw[lG,List.getElem?_eq_getElem (by omega)];rfl
 generalize hrow:rows.getD x (false,[])=row at*
 have hrm:row∈rows:=List.mem_of_getElem? hxr
 intro e
 induction e with
 |zero=>
  intro k out op s hk ho hd hI hsrc hdone
  rw[K0R]
  simp only[q0W hxr,oS,cell_uIs,len_uIs,show¬((k:Int)<((row.2.length:Nat):Int)) by omega,dF,bF,iF]
  refine ih out op s ho hd ⟨hI.len,hI.sound,hI.src,fun z h1 h2=> ?_⟩
  rcases hI.all z h1 h2 with h3 |h3 |h3
  ·exact .inl h3
  ·exact .inr (.inl h3)
  ·cases h3
   refine .inr (.inl fun y hy hPy=> ?_)
   rw[hrow]at hy
   obtain⟨j,hj⟩:=List.mem_iff_getElem?.1 hy
   exact hdone j y (by have:=(gE.1 hj).1;omega) hj hPy
 |succ e ihe=>
  intro k out op s hk ho hd hI hsrc hdone
  have hlt:k<row.2.length:=by omega
  have hlen:=(hrows row hrm).2
  obtain⟨y0,y1⟩:=(hrows row hrm).1 row.2[k] (lM hlt)
  obtain⟨y,hy⟩:=iZ y0
  have hget:row.2[k]? =some (y:Int):=by rw[q0a hlt,hy]
  rw[hy]at y1
  have hyn:y<n:=by omega
  have hopn:op.length<=1000000000:=by omega
  obtain⟨p,hPy⟩: ∃p,P[y]? =some p:=⟨_,q0a (by omega)⟩
  obtain⟨o,houty⟩: ∃o,out[y]? =some o:=⟨_,q0a (by rw[hI.len];exact hyn)⟩
  rw[K0R]
  simp only[q0W hxr,oS,cell_uIs,len_uIs,show((k:Int)<((row.2.length:Nat):Int)) by omega,dY,iT,q0w hget,cell_c,asI_c,z0q hPy,asB_c,q0M (show y<out.length by rw[hI.len];exact hyn),iN,j0k houty,j1U,q0b (show k<=1000000000 by omega)]
  have skip:(inB P y->inB out y)-> ∃out',y83_4 M (uLs bb rows) (.sl true (uBs P)) (x:Int) ((k+1:Nat):Int) ⟨true,1,uBs out⟩ s=some (.sl ⟨true,1,uBs out'⟩)/\out'.length=n/\ ∀i,inB out' i↔Goal rows P T i:=fun hy2=>
   ihe (k+1) out op s (by omega) ho hd hI hsrc fun j z hj hz hPz=>by
    by_cases hjk:j<k
    ·exact hdone j z hjk hz hPz
    ·have:j=k:=by omega
     subst this
     rw[hget]at hz
     have:y=z:=by have:=Option.some.inj hz;omega
     subst this
     exact hy2 hPz
  cases p with
  |false=>
   simp only[bF,iF,oS]
   exact skip fun h=>by rw[inB,hPy]at h;cases h
  |true=>
   cases o with
   |true=>
    simp only[iT,Bool.not_true,oS,bF,iF]
    exact skip fun _=>houty
   |false=>
    simp only[iT,Bool.not_false,oS,q0T (show y<out.length by rw[hI.len];exact hyn)]
    obtain⟨s',h1,h2⟩:=ho.app (y:Int) hopn
    simp only[show(U.c (.int .i64 (y:Int)))=uI (y:Int)from rfl,h1,oS]
    have hcf:=W0F houty
    have hyl:y<out.length:=by rw[hI.len];exact hyn
    have hg:Goal rows P T y:=by
     have hnx:nxR rows y x:=by show(y:Int)∈(rows.getD x (false,[])).2;rw[hrow];exact List.mem_of_getElem? hget
     rcases hsrc with h |h
     ·exact⟨hPy,0,x,hnx,hPx,h⟩
     ·obtain⟨_,d',hd'⟩:=hI.sound x h
      exact⟨hPy,d'+1,x,hnx,hPx,hd'⟩
    refine ihe (k+1) (out.set y true) (op++[(y:Int)]) s' (by omega) h2 (by simp only[List.length_append,List.length_cons,List.length_nil];omega) ⟨by rw[List.length_set];exact hI.len,fun i hi=> ?_,fun z hz=> ?_,fun z h1 h2=> ?_⟩ (hsrc.imp id z0c) fun j z hj hz hPz=> ?_
    ·rcases(q0v hyl).1 hi with e |h
     ·subst e;exact hg
     ·exact hI.sound i h
    ·rcases mA.1 hz with hz |hz
     ·obtain⟨j,g1,g2,g3,g4⟩:=hI.src z hz
      exact⟨j,g1,g2,g3,g4.imp id z0c⟩
     ·exact⟨y,by simpa using hz,hyn,hPy, .inr ((q0v hyl).2 (.inl rfl))⟩
    ·by_cases hzy:z=y
     ·subst hzy;exact .inl (by simp)
     ·have h3:inB T z\/inB out z:=h2.imp id fun h=>((q0v hyl).1 h).resolve_left hzy
      rcases hI.all z h1 h3 with g |g |g
      ·exact .inl (mA.2 (.inl g))
      ·exact .inr (.inl fun w hw hPw=>z0c (g w hw hPw))
      ·exact .inr (.inr g)
    ·by_cases hjk:j<k
     ·exact z0c (hdone j z hjk hz hPz)
     ·have:j=k:=by omega
      subst this
      rw[hget]at hz
      have:y=z:=by have:=Option.some.inj hz;omega
      subst this
      exact(q0v hyl).2 (.inl rfl)
theorem z1G{bb:Bool}: ∀(d:Nat),d<=2000000-> ∀(out:List Bool) (op:List Int) (s:Sx),IsOp s op->cf out+op.length<=d->RI rows P T n out op none->
  ∃out',y83_3 M (uLs bb rows) (.sl true (uBs P)) ⟨true,1,uBs out⟩ s=some (.sl ⟨true,1,uBs out'⟩)/\out'.length=n/\ ∀i,inB out' i↔Goal rows P T i:=by
 have stop: ∀(out:List Bool) (s:Sx),IsOp s []->RI rows P T n out [] none-> ∃out',y83_3 M (uLs bb rows) (.sl true (uBs P)) ⟨true,1,uBs out⟩ s=some (.sl ⟨true,1,uBs out'⟩)/\out'.length=n/\ ∀i,inB out' i↔Goal rows P T i:=fun out s ho hI=>by
  refine⟨out, ?_,hI.len,fun i=>hI.goal⟩
  rw[K0Q]
  simp only[ho.len,List.length_nil,show¬((0:Int)<((0:Nat):Int)) by omega,dF,bF,iF,q0S,iT]
 intro d
 induction d with
 |zero=>
  intro _ out op s ho hd hI
  have:op=[]:=List.length_eq_zero_iff.1 (by omega)
  subst this
  exact stop out s ho hI
 |succ d ih=>
  intro hdn out op s ho hd hI
  rcases List.eq_nil_or_concat op with rfl |⟨l,x,hop⟩
  ·exact stop out s ho hI
  ·rw[List.concat_eq_append]at hop
   subst hop
   simp only[List.length_append,List.length_cons,List.length_nil]at hd
   obtain⟨j,rfl,g2,g3,g4⟩:=hI.src x (by simp)
   obtain⟨e1,e2,e3,e4,l4,e5,e6⟩:=ho.last (by omega)
   obtain⟨out',k1,k2⟩:=z1F (M:=M) hn hr hP hT hrows (bb:=bb) g2 g3 (d:=d) (by omega) (ih (by omega)) (rows.getD j (false,[])).2.length 0 out l _ (by omega) e6 (by omega)
    ⟨hI.len,hI.sound,fun z hz=>hI.src z (by simp[hz]),fun z h1 h2=>by
     rcases hI.all z h1 h2 with h |h |h
     ·rcases mA.1 h with h |h
      ·exact .inl h
      ·have:j=z:=by have:=List.mem_singleton.1 h;omega
       exact .inr (.inr (by rw[this]))
     ·exact .inr (.inl h)
     ·cases h⟩ g4 (fun i y hi=>by omega)
   refine⟨out', ?_,k2⟩
   rw[K0Q]
   have hpos:(0:Int)<((s.es.length:Nat):Int):=by rw[ho.len];simp
   simp only[hpos,e1,iN,dY,iT,e2,e3,oS,cell_c,asI_c,e4,and_self,e5]
   exact k1
theorem z1H{bb:Bool}{b2:Bool}(out:List Bool)(hout:out=List.replicate n false): ∀(d k:Nat) (op:List Int) (s:Sx),k+d=n->IsOp s op->op.length<=k->(∀x∈op,∃j:Nat,x=j/\j<n/\inB P j/\inB T j)->(∀j,j<k->inB P j->inB T j->(j:Int)∈op)->
  ∃out',y83_1 M (uLs bb rows) (.sl true (uBs P)) (.sl b2 (uBs T)) (k:Int) ⟨true,1,uBs out⟩ s=some (.sl ⟨true,1,uBs out'⟩)/\out'.length=n/\ ∀i,inB out' i↔Goal rows P T i:=by
 have hlen: ∀(b:Bool) (l:List Bool),U.len (.sl b (uBs l))=some l.length:=fun b l=>by simp[U.len,U.asL]
 have none_in: ∀i,¬inB out i:=fun i h=>by
  rw[hout,inB,List.getElem?_replicate]at h
  split at h<;>cases h
 intro d
 induction d with
 |zero=>
  intro k op s hk ho hle h1 h2
  rw[K0P]
  simp only[hlen,oS,hP,show¬((k:Int)<((n:Nat):Int)) by omega,dF,bF,iF]
  have hcf:=q1a out
  rw[hout,List.length_replicate,<-hout]at hcf
  refine z1G hn hr hP hT hrows (cf out+op.length) (by omega) out op s ho (nR _) ⟨by simp[hout],fun i h=>absurd h (none_in i),fun x hx=> ?_,fun x hx hx2=> ?_⟩
  ·obtain⟨j,g1,g2,g3,g4⟩:=h1 x hx
   exact⟨j,g1,g2,g3, .inl g4⟩
  ·have hxn:x<n:=by have:=(gE.1 hx).1;omega
   exact .inl (h2 x (by omega) hx (hx2.resolve_right (none_in x)))
 |succ d ih=>
  intro k op s hk ho hle h1 h2
  obtain⟨p,hPk⟩: ∃p,P[k]? =some p:=⟨_,q0a (by omega)⟩
  obtain⟨t,hTk⟩: ∃t,T[k]? =some t:=⟨_,q0a (by omega)⟩
  rw[K0P]
  simp only[hlen,oS,hP,show((k:Int)<((n:Nat):Int)) by omega,dY,iT,z0q hPk,z0q hTk,cell_c,asB_c,j1T,q0b (show k<=1000000000 by omega)]
  have skip: ¬(p=true/\t=true)-> ∃out',y83_1 M (uLs bb rows) (.sl true (uBs P)) (.sl b2 (uBs T)) ((k+1:Nat):Int) ⟨true,1,uBs out⟩ s=some (.sl ⟨true,1,uBs out'⟩)/\out'.length=n/\ ∀i,inB out' i↔Goal rows P T i:=fun hpt=>
   ih (k+1) op s (by omega) ho (by omega) h1 fun j hj g1 g2=>by
    by_cases hjk:j<k
    ·exact h2 j hjk g1 g2
    ·have:j=k:=by omega
     subst this
     rw[inB,hPk]at g1;rw[inB,hTk]at g2
     exact absurd ⟨Option.some.inj g1,Option.some.inj g2⟩ hpt
  cases p with
  |false=>
   simp only[bF,iF,oS]
   exact skip fun h=>by cases h.1
  |true=>
   cases t with
   |false=>
    simp only[iT,oS,bF,iF]
    exact skip fun h=>by cases h.2
   |true=>
    obtain⟨s',g1,g2⟩:=ho.app (k:Int) (by omega)
    simp only[iT,oS,show(U.c (.int .i64 (k:Int)))=uI (k:Int)from rfl,g1]
    refine ih (k+1) (op++[(k:Int)]) s' (by omega) g2 (by simp;omega) (fun x hx=> ?_) fun j hj g1 g2=> ?_
    ·rcases mA.1 hx with hx |hx
     ·exact h1 x hx
     ·exact⟨k,by simpa using hx,by omega,hPk,hTk⟩
    ·by_cases hjk:j<k
     ·exact mA.2 (.inl (h2 j hjk g1 g2))
     ·have:j=k:=by omega
      subst this;simp
theorem k1Z{bb b2:Bool}: ∃out',y83 M (uLs bb rows) (.sl true (uBs P)) (.sl b2 (uBs T))=some (.sl ⟨true,1,uBs out'⟩)/\out'.length=n/\ ∀i,inB out' i↔Goal rows P T i:=by
 have hlen: ∀(b:Bool) (l:List Bool),U.len (.sl b (uBs l))=some l.length:=fun b l=>by simp[U.len,U.asL]
 obtain⟨out',k1,k2⟩:=z1H (M:=M) hn hr hP hT hrows (bb:=bb) (b2:=b2) (List.replicate n false) rfl n 0 [] ⟨false,0,[]⟩ (by omega) IsOp.nil (nR _) (fun x hx=>by cases hx) (fun j hj=>by omega)
 refine⟨out', ?_,k2⟩
 rw[Q1S]
 have hrep:List.replicate n (U.c (.bool false))=uBs (List.replicate n false):=by simp[uBs]
 simp only[hlen,oS,hP,iN,hrep]
 rw[if_pos ⟨by omega,by omega,trivial⟩]
 exact k1
end
end Go.Proofs.Ytglkhoamnmiolaa.R
