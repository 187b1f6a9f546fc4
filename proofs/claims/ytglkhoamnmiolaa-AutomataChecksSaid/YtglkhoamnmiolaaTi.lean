/- - -/
import Derived.Test.YtglkhoamnmiolaaTh
set_option linter.all false
namespace Go.Proofs.Ytglkhoamnmiolaa.R
open Go Go.Proofs.Ytglkhoamnmiolaa.Vm
structure SI (rows:List (Bool×List Int)) (n:Nat) (src:Nat->Prop) (out:List Bool) (op:List Int) (cur:Option (Nat×Nat)):Prop where
 len:out.length=n
 sound: ∀i,inB out i-> ∃s,src s/\Rch (nxL rows) s i
 src: ∀s,src s->inB out s
 ops: ∀x∈op,∃j:Nat,x=j/\j<n/\inB out j
 all: ∀x,inB out x->(x:Int)∈op\/(∀y,nxT rows x y->inB out y)\/ ∃k,cur=some (x,k)
 cur: ∀x k,cur=some (x,k)->inB out x/\ ∀j y:Nat,j<k->(rows.getD x (false,[])).2[j]? =some (y:Int)->inB out y
section
variable{rows:List (Bool×List Int)}{n:Nat}{src:Nat->Prop}{out:List Bool}{op:List Int}(hT:Table n rows)
include hT
theorem SI.done(h:SI rows n src out [] none){i:Nat}:inB out i↔ ∃s,src s/\Rch (nxL rows) s i:=by
 refine⟨h.sound i, ?_⟩
 rintro⟨s,h1,h2⟩
 have h3:=h.src s h1
 clear h1
 induction h2 with
 |refl=>exact h3
 |step g1 _ ih=>
  refine ih ?_
  rcases h.all _ h3 with g |g |⟨k,g⟩
  ·simp at g
  ·exact g _ ((j0b hT).1 g1)
  ·cases g
theorem SI.take{op':List Int}{x:Nat}(h:SI rows n src out op none)(hx:inB out x)(hs: ∀z∈op,z∈op'\/z=(x:Int))(hs': ∀z∈op',z∈op):SI rows n src out op' (some (x,0)):=by
 refine⟨h.len,h.sound,h.src,fun z hz=>h.ops z (hs' z hz),fun z hz=> ?_,fun z k e=> ?_⟩
 ·rcases h.all z hz with g |g |⟨k,g⟩
  ·rcases hs _ g with g |g
   ·exact .inl g
   ·exact .inr (.inr ⟨0,by rw[show z=x by omega]⟩)
  ·exact .inr (.inl g)
  ·cases g
 ·cases e;exact⟨hx,fun j y hj=>absurd hj (Nat.not_lt_zero _)⟩
theorem SI.left{x k:Nat}(h:SI rows n src out op (some (x,k)))(hk:(rows.getD x (false,[])).2.length<=k):SI rows n src out op none:=
 ⟨h.len,h.sound,h.src,h.ops,fun z hz=>by
  rcases h.all z hz with g |g |⟨k',g⟩
  ·exact .inl g
  ·exact .inr (.inl g)
  ·cases g
   refine .inr (.inl fun y hy=> ?_)
   obtain⟨j,hj⟩:=List.mem_iff_getElem?.1 hy
   have hjl:=(gE.1 hj).1
   exact(h.cur x k rfl).2 j y (by omega) hj,fun z k' e=>(by cases e)⟩
theorem SI.skip{x k y:Nat}(h:SI rows n src out op (some (x,k)))(hk:(rows.getD x (false,[])).2[k]? =some (y:Int))(hy:inB out y):SI rows n src out op (some (x,k+1)):=
 ⟨h.len,h.sound,h.src,h.ops,fun z hz=>by
  rcases h.all z hz with g |g |⟨k',g⟩
  ·exact .inl g
  ·exact .inr (.inl g)
  ·cases g;exact .inr (.inr ⟨k+1,rfl⟩),fun z k' e=>by
  cases e
  refine⟨(h.cur x k rfl).1,fun j y' hj hj'=> ?_⟩
  by_cases hjk:j<k
  ·exact(h.cur x k rfl).2 j y' hjk hj'
  ·have:j=k:=by omega
   subst this
   rw[hk]at hj'
   have:y=y':=by have:=Option.some.inj hj';omega
   rw[<-this];exact hy⟩
theorem SI.mark{x k y:Nat}{op':List Int}(h:SI rows n src out op (some (x,k)))(hk:(rows.getD x (false,[])).2[k]? =some (y:Int))(hyn:y<n)(hs: ∀z,z∈op'↔z∈op\/z=(y:Int)):SI rows n src (out.set y true) op' (some (x,k+1)):=by
 have hyl:y<out.length:=by rw[h.len];exact hyn
 obtain⟨hx,hc⟩:=h.cur x k rfl
 refine⟨by rw[List.length_set];exact h.len,fun i hi=> ?_,fun s hs=>z0c (h.src s hs),fun z hz=> ?_,fun z hz=> ?_,fun z k' e=> ?_⟩
 ·rcases(q0v hyl).1 hi with e |g
  ·subst e
   obtain⟨s,s1,s2⟩:=h.sound x hx
   exact⟨s,s1,s2.trans (.one ((j0b hT).2 (List.mem_of_getElem? hk)))⟩
  ·exact h.sound i g
 ·rcases(hs z).1 hz with g |g
  ·obtain⟨j,g1,g2,g3⟩:=h.ops z g
   exact⟨j,g1,g2,z0c g3⟩
  ·exact⟨y,g,hyn,(q0v hyl).2 (.inl rfl)⟩
 ·by_cases e:z=y
  ·exact .inl ((hs _).2 (.inr (by rw[e])))
  ·have hz':=((q0v hyl).1 hz).resolve_left e
   rcases h.all z hz' with g |g |⟨k',g⟩
   ·exact .inl ((hs _).2 (.inl g))
   ·exact .inr (.inl fun y' hy'=>z0c (g y' hy'))
   ·cases g;exact .inr (.inr ⟨k+1,rfl⟩)
 ·cases e
  refine⟨z0c hx,fun j y' hj hj'=> ?_⟩
  by_cases hjk:j<k
  ·exact z0c (hc j y' hjk hj')
  ·have:j=k:=by omega
   subst this
   rw[hk]at hj'
   have:y=y':=by have:=Option.some.inj hj';omega
   rw[<-this];exact(q0v hyl).2 (.inl rfl)
end
section
variable{M:YM}{rows:List (Bool×List Int)}{n:Nat}{src:Nat->Prop}(hT:Table n rows)(hn:n<=1000000)
include hT hn
theorem z1W{bb:Bool}{x:Nat}(hx:x<n){d:Nat}(hdn:d<=3000000)
  (ih: ∀(out:List Bool) (op:List Int) (s:Sx),IsOp s op->cf out+op.length<=d->SI rows n src out op none-> ∃out',y80_2 M (uLs bb rows) ⟨true,1,uBs out⟩ s=some (.sl ⟨true,1,uBs out'⟩)/\out'.length=n/\ ∀i,inB out' i↔ ∃s,src s/\Rch (nxL rows) s i):
  ∀(e k:Nat) (out:List Bool) (op:List Int) (s:Sx),k+e=(rows.getD x (false,[])).2.length->IsOp s op->cf out+op.length<=d->SI rows n src out op (some (x,k))->
   ∃out',y80_3 M (uLs bb rows) (x:Int) (k:Int) ⟨true,1,uBs out⟩ s=some (.sl ⟨true,1,uBs out'⟩)/\out'.length=n/\ ∀i,inB out' i↔ ∃s,src s/\Rch (nxL rows) s i:=by
 have hxr:rows[x]? =some (rows.getD x (false,[])):=by
  rw[lG,List.getElem?_eq_getElem (by rw[hT.1];exact hx)];rfl
 have hlen:=w0A hT hxr
 intro e
 induction e with
 |zero=>
  intro k out op s hk ho hd hI
  rw[K0O]
  simp only[q0W hxr,oS,cell_uIs,len_uIs,show¬((k:Int)<(((rows.getD x (false,[])).2.length:Nat):Int)) by omega,dF,bF,iF]
  exact ih out op s ho hd (hI.left hT (by omega))
 |succ e ihe=>
  intro k out op s hk ho hd hI
  have hlt:k<(rows.getD x (false,[])).2.length:=by omega
  obtain⟨y0,y1⟩:=hT.2.1 _ (List.mem_of_getElem? hxr) _ (lM hlt)
  obtain⟨y,hy⟩:=iZ y0
  have hget:(rows.getD x (false,[])).2[k]? =some (y:Int):=by rw[q0a hlt,hy]
  have hyn:y<n:=by omega
  have hyl:y<out.length:=by rw[hI.len];exact hyn
  obtain⟨a1,a2⟩:=j0d hyl
  rw[K0O]
  simp only[q0W hxr,oS,cell_uIs,len_uIs,show((k:Int)<(((rows.getD x (false,[])).2.length:Nat):Int)) by omega,dY,iT,q0w hget,cell_c,asI_c,q0M hyl,iN,j0k a1,asB_c,j1S,q0b (show k<=1000000000 by omega)]
  cases ho':out[y]with
  |true=>
   simp only[Bool.not_true,bF,iF]
   exact ihe (k+1) out op s (by omega) ho hd (hI.skip hT hget (a2.2 ho'))
  |false=>
   obtain⟨s',h1,h2⟩:=ho.app (y:Int) (by omega)
   simp only[Bool.not_false,iT,q0T hyl,oS,show(U.c (.int .i64 (y:Int)))=uI (y:Int)from rfl,h1]
   rw[ho']at a1
   have hcf:=W0F a1
   exact ihe (k+1) _ _ s' (by omega) h2 (by simp only[List.length_append,List.length_cons,List.length_nil];omega) (hI.mark hT hget hyn fun z=>by simp)
theorem z1X{bb:Bool}: ∀(d:Nat),d<=3000000-> ∀(out:List Bool) (op:List Int) (s:Sx),IsOp s op->cf out+op.length<=d->SI rows n src out op none->
  ∃out',y80_2 M (uLs bb rows) ⟨true,1,uBs out⟩ s=some (.sl ⟨true,1,uBs out'⟩)/\out'.length=n/\ ∀i,inB out' i↔ ∃s,src s/\Rch (nxL rows) s i:=by
 have stop: ∀(out:List Bool) (s:Sx),IsOp s []->SI rows n src out [] none-> ∃out',y80_2 M (uLs bb rows) ⟨true,1,uBs out⟩ s=some (.sl ⟨true,1,uBs out'⟩)/\out'.length=n/\ ∀i,inB out' i↔ ∃s,src s/\Rch (nxL rows) s i:=fun out s ho hI=>by
  refine⟨out, ?_,hI.len,fun i=>hI.done hT⟩
  rw[K0N]
  simp only[ho.len,List.length_nil,show¬((0:Int)<((0:Nat):Int)) by omega,dF,bF,iF,q0S,iT]
 intro d
 induction d with
 |zero=>
  intro _ out op s ho hd hI
  have:op=[]:=List.length_eq_zero_iff.1 (by omega)
  subst this
  exact stop out s ho hI
 |succ d ih=>
  intro hdn out op s ho hd hI
  rcases List.eq_nil_or_concat op with rfl |⟨l,x,hop⟩
  ·exact stop out s ho hI
  ·rw[List.concat_eq_append]at hop
   subst hop
   simp only[List.length_append,List.length_cons,List.length_nil]at hd
   obtain⟨j,rfl,g2,g3⟩:=hI.ops x (by simp)
   obtain⟨e1,e2,e3,e4,l4,e5,e6⟩:=ho.last (by omega)
   obtain⟨out',k1,k2⟩:=z1W hT hn (M:=M) (src:=src) (bb:=bb) g2 (d:=d) (by omega) (ih (by omega)) (rows.getD j (false,[])).2.length 0 out l _ (by omega) e6 (by omega)
    (hI.take hT g3 (fun z hz=>by simpa using hz) (fun z hz=>by simp[hz]))
   refine⟨out', ?_,k2⟩
   rw[K0N]
   have hpos:(0:Int)<((s.es.length:Nat):Int):=by rw[ho.len];simp
   simp only[hpos,e1,iN,dY,iT,e2,e3,oS,cell_c,asI_c,e4,and_self,e5]
   exact k1
theorem z1Y{bb b:Bool}{l:List Int}(hl: ∀s∈l,0<=s/\s<(n:Int))(hll:l.length<=1000000){s:Sx}(ho:IsOp s l): ∀(d i:Nat) (out:List Bool),i+d=l.length->out.length=n->(∀x,inB out x↔((x:Nat):Int)∈l.take i)->
  ∃out',y80_1 M (uLs bb rows) (uIs b l) (i:Int) ⟨true,1,uBs out⟩ s=some (.sl ⟨true,1,uBs out'⟩)/\out'.length=n/\ ∀i,inB out' i↔ ∃s:Nat,(s:Int)∈l/\Rch (nxL rows) s i:=by
 intro d
 induction d with
 |zero=>
  intro i out hi hlen hx
  rw[List.take_of_length_le (by omega)]at hx
  rw[K0M]
  simp only[len_uIs,oS,show¬((i:Int)<((l.length:Nat):Int)) by omega,dF,bF,iF]
  have:=q1a out
  exact z1X hT hn (src:=fun s=>(s:Int)∈l) (bb:=bb) (cf out+l.length) (by omega) out l s ho (nR _) ⟨hlen,fun i hi=>⟨i,(hx i).1 hi, .refl i⟩,fun s hs=>(hx s).2 hs,fun x hx'=>by
   obtain⟨g1,g2⟩:=hl x hx'
   obtain⟨j,hj⟩:=iZ g1
   exact⟨j,hj,by omega,(hx j).2 (by rw[<-hj];exact hx')⟩,fun x hx'=> .inl ((hx x).1 hx'),fun x k e=>(by cases e)⟩
 |succ d ih=>
  intro i out hi hlen hx
  have hlt:i<l.length:=by omega
  have hg:l[i]? =some l[i]:=q0a hlt
  obtain⟨g1,g2⟩:=hl _ (lM hlt)
  obtain⟨x,hs⟩:=iZ g1
  rw[hs]at hg
  have hc:x<out.length:=by omega
  rw[K0M]
  simp only[len_uIs,oS,show((i:Int)<((l.length:Nat):Int)) by omega,dY,iT,q0w hg,cell_c,asI_c,q0M hc,iN,q0T hc,q0b (show i<=1000000000 by omega)]
  refine ih (i+1) _ (by omega) (by rw[List.length_set];exact hlen) fun z=> ?_
  rw[q0v hc,hx,List.take_succ,hg]
  simp only[Option.toList_some,mA,List.mem_singleton]
  constructor
  ·rintro(h |h)
   ·exact .inr (by rw[h])
   ·exact .inl h
  ·rintro(h |h)
   ·exact .inr h
   ·exact .inl (by omega)
theorem J1B{bb b:Bool}{l:List Int}(hl: ∀s∈l,0<=s/\s<(n:Int))(hll:l.length<=1000000): ∃out',y80 M (uLs bb rows) (uIs b l)=some (.sl ⟨true,1,uBs out'⟩)/\out'.length=n/\ ∀i,inB out' i↔ ∃s:Nat,(s:Int)∈l/\Rch (nxL rows) s i:=by
 rw[Q1Q]
 simp only[len_uLs,hT.1,oS,k0H,iN,Y0t hll,asSl_sl]
 rw[if_pos ⟨by omega,by omega,trivial⟩]
 exact z1Y hT hn hl hll ⟨rfl, .inr rfl,fun _=>rfl⟩ l.length 0 _ (by omega) (by simp) fun x=>⟨fun h=>absurd h q0R,fun h=>by simp at h⟩
end
end Go.Proofs.Ytglkhoamnmiolaa.R
