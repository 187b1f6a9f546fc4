/- - -/
import Derived.Test.YtglkhoamnmiolaaTp
set_option linter.all false
namespace Go.Proofs.Ytglkhoamnmiolaa.R
open Go Go.Proofs.Ytglkhoamnmiolaa.Vm
def sxG(sz:Nat)(us:List U):Sx:=if us=[]then⟨false,0,[]⟩else⟨true,sz,us⟩
theorem w1b(sz:Nat)(us:List U):Sx.fz (sxG sz us)= .sl (!us.isEmpty) us:=by
 unfold sxG
 cases us with
 |nil=>rfl
 |cons x l=>rfl
theorem q1c{sz:Nat}{us:List U}{u:U}(hu:u.size=sz)(hn:us.length<=1000000000):Sx.app (sxG sz us) sz [u]=some (sxG sz (us++[u])):=by
 have he:(sxG sz us).es=us:=by
  unfold sxG
  split
  ·rename_i h;rw[h]
  ·rfl
 have hz:(sxG sz us).b=false\/(sxG sz us).sz=sz:=by
  unfold sxG
  split
  ·exact .inl rfl
  ·exact .inr rfl
 have hr:roomy ((sxG sz us).es.length+[u].length):=by rw[he];show _<=_;simp;omega
 unfold Sx.app
 rw[if_pos ⟨hz,by simp[hu],hr⟩,if_neg (by simp),he]
 simp[sxG]
theorem q1d{a i:Nat}{f:Nat->Int}{x:Int}(h:i<a):(numsL a f).set i x=numsL a fun v=>if v=i then x else f v:=by
 refine List.ext_getElem? fun k=> ?_
 have hl:(numsL a f).length=a:=by simp[numsL]
 have hl2:(numsL a fun v=>if v=i then x else f v).length=a:=by simp[numsL]
 rw[List.getElem?_set,hl]
 by_cases hk:k<a
 ·rw[j0B hk,j0B hk]
  by_cases e:i=k
  ·subst e;simp[h]
  ·rw[if_neg e,if_neg (fun e'=>e e'.symm)]
 ·rw[List.getElem?_eq_none (by omega),List.getElem?_eq_none (by omega)]
  have:i≠k:=by omega
  simp[this]
theorem z1I{P:List Bool}{i:Nat}(hp:P.getD i false=true):(fun v=>if v=i then((oldL P i).length:Int)else nmF P i v)=nmF P (i+1):=by
 funext v
 unfold nmF
 by_cases hv:v=i
 ·subst hv;rw[if_pos rfl,if_pos ⟨by omega,hp⟩]
 ·rw[if_neg hv]
  have:(v<i/\P.getD v false=true)↔(v<i+1/\P.getD v false=true):=by constructor<;>intro h<;>exact⟨by omega,h.2⟩
  simp only[this]
theorem z1J{P:List Bool}{i:Nat}(hp: ¬P.getD i false=true):nmF P i=nmF P (i+1):=by
 funext v
 unfold nmF
 by_cases hv:v=i
 ·subst hv;rw[if_neg (by omega),if_neg (fun h=>hp h.2)]
 ·have:(v<i/\P.getD v false=true)↔(v<i+1/\P.getD v false=true):=by constructor<;>intro h<;>exact⟨by omega,h.2⟩
  simp only[this]
def trimP(P:List Bool)(a:Nat)(l:List Int)(es:List E4)(xs:List (Bool×List Int)):List U:=
 [.st [uI ((oldL P a).length:Nat),uIs (!(keptL (numF P a) l).isEmpty) (keptL (numF P a) l),uEs (!(keptE (numF P a) es).isEmpty) (keptE (numF P a) es),uLs (!(keptX (numF P a) xs).isEmpty) (keptX (numF P a) xs)],
  uIs (!(oldL P a).isEmpty) (oldL P a)]
section
variable{M:YM}{a:Nat}{P:List Bool}(hP:P.length=a)(ha:a<=300){b1 b2 b3:Bool}{l:List Int}{es:List E4}{xs:List (Bool×List Int)}
variable(hok:es.all (eOK (a:Int))=true)(he:es.length<=6000)(hx:xs.length<=8)(hl: ∀s∈l,0<=s/\s<(a:Int))(hll:l.length<=1000000)(hxs: ∀x∈xs,x.2.length<=1000000/\ ∀s∈x.2,0<=s/\s<(a:Int))
include hP ha hok he hx hl hll hxs
theorem z1K{n0:Int}{z1 z2 z3:Sx}{s1 s2 o:Sx}{u1 u2:U}: ∀(d k:Nat),k+d=xs.length->
  y29_5 M (a:Int) u1 u2 (uLs b3 xs) 0 (setU P) n0 (k:Int) z1 z2 z3 ⟨true,1,(numsL a (nmF P a)).map uI⟩ o s1 s2 (sxG 1 ((keptX (numF P a) (xs.take k)).map fun x=>uIs x.1 x.2))=
   some (.tup [.st [.c (.int .i64 n0),Sx.fz s1,Sx.fz s2,Sx.fz (sxG 1 ((keptX (numF P a) xs).map fun x=>uIs x.1 x.2))],Sx.fz o]):=by
 intro d
 induction d with
 |zero=>
  intro k hk
  rw[K0B,List.take_of_length_le (by omega)]
  simp only[len_uLs,oS,show¬((k:Int)<((xs.length:Nat):Int)) by omega,dF,bF,iF]
 |succ d ih=>
  intro k hk
  have hlt:k<xs.length:=by omega
  have hg:xs[k]? =some xs[k]:=q0a hlt
  obtain⟨g1,g2⟩:=hxs _ (lM hlt)
  have h66:y66 M (uIs xs[k].1 xs[k].2) (setU P) (Sx.fz ⟨true,1,(numsL a (nmF P a)).map uI⟩)=some (.sl (sxI (refK P a xs[k].2))):=w1e hP (bn:=true) g2 g1
  rw[Z0Z g2]at h66
  have e:keptX (numF P a) (xs.take (k+1))=keptX (numF P a) (xs.take k)++[(!(keptL (numF P a) xs[k].2).isEmpty,keptL (numF P a) xs[k].2)]:=by
   rw[List.take_add_one,hg]
   simp only[keptX,Option.toList_some,List.map_append,List.map_cons,List.map_nil]
  have hap:=q1c (sz:=1) (us:=(keptX (numF P a) (xs.take k)).map fun x=>uIs x.1 x.2) (u:=uIs (!(keptL (numF P a) xs[k].2).isEmpty) (keptL (numF P a) xs[k].2)) rfl (by simp[keptX];omega)
  rw[K0B]
  simp only[len_uLs,oS,show((k:Int)<((xs.length:Nat):Int)) by omega,dY,iT,q0W hg,cell_uIs,h66,asSl_sl,J0H,hap,q0b (show k<=1000000000 by omega)]
  rw[<-ih (k+1) (by omega),e,List.map_append]
  rfl
theorem z1L{n0:Int}{z1 z2 z3:Sx}{s1 s3 o:Sx}{u1:U}: ∀(d i:Nat),i+d=es.length->
  y29_3 M (a:Int) u1 (uEs b2 es) (uLs b3 xs) 0 (setU P) n0 (i:Int) z1 z2 z3 ⟨true,1,(numsL a (nmF P a)).map uI⟩ o s1 (sxG 4 ((keptE (numF P a) (es.take i)).map uE)) s3=
   y29_5 M (a:Int) u1 (uEs b2 es) (uLs b3 xs) 0 (setU P) n0 0 z1 z2 z3 ⟨true,1,(numsL a (nmF P a)).map uI⟩ o s1 (sxG 4 ((keptE (numF P a) es).map uE)) s3:=by
 intro d
 induction d with
 |zero=>
  intro i hi
  rw[K0z,List.take_of_length_le (by omega)]
  simp only[len_uEs,oS,show¬((i:Int)<((es.length:Nat):Int)) by omega,dF,bF,iF]
 |succ d ih=>
  intro i hi
  have hlt:i<es.length:=by omega
  have hg:es[i]? =some es[i]:=q0a hlt
  obtain⟨⟨s,hs1,hs2⟩,⟨t,ht1,ht2⟩,_,_⟩:=J0Z hok hg
  obtain⟨f,f0,f1,f2,f3,f4⟩:=j0V es[i]
  obtain⟨p1,_⟩:=j0d (show s<P.length by omega)
  obtain⟨p2,_⟩:=j0d (show t<P.length by omega)
  have d1:P.getD s false=P[s]:=by rw[lG,p1];rfl
  have d2:P.getD t false=P[t]:=by rw[lG,p2];rfl
  have hk:=Q0o (num:=numF P a) hg
  have hkp:kpE (numF P a) es[i]=(P[s]&&P[t]):=by
   unfold kpE
   rw[hs1,ht1,iN,iN,q1E hs2,q1E ht2,d1,d2]
  have hkl:=w0E (numF P a) (es.take i)
  rw[List.length_take]at hkl
  have hnl:((numsL a (nmF P a))).length=a:=by simp[numsL]
  have q:(if P[s]=true then(U.idx 1 (.sl true (uBs P)) (t:Int)).bind fun v7=>(v7.cell 0).bind fun c8=>c8.asB.bind fun b9=>some b9 else some P[s])=some (kpE (numF P a) es[i]):=by
   rw[hkp,z0q p2]
   cases P[s]<;>rfl
  rw[K0z]
  simp only[len_uEs,oS,show((i:Int)<((es.length:Nat):Int)) by omega,dY,iT,k0R hg,f0,f1,f2,f3,f4,i_uI,hs1,ht1,setU,z0q p1,cell_c,asB_c,q]
  refine Eq.trans ?_ (ih (i+1) (by omega))
  rw[hk]
  by_cases e:kpE (numF P a) es[i]=true
  ·have hpp:P[s]=true/\P[t]=true:=by rw[hkp,bA]at e;exact e
   have hne:newE (numF P a) es[i]=⟨nmF P a s,nmF P a t,es[i].n,es[i].v⟩:=by
    unfold newE
    rw[hs1,ht1,iN,iN,q1F hs2 (by rw[d1];exact hpp.1),q1F ht2 (by rw[d2];exact hpp.2)]
   have hap:=q1c (sz:=4) (us:=(keptE (numF P a) (es.take i)).map uE) (u:=uE (newE (numF P a) es[i])) rfl (by simp;omega)
   rw[hne]at hap
   have g1:((numsL a (nmF P a)).map uI)[s]? =some (uI (nmF P a s)):=by rw[List.getElem?_map,j0B hs2];rfl
   have g2:((numsL a (nmF P a)).map uI)[t]? =some (uI (nmF P a t)):=by rw[List.getElem?_map,j0B ht2];rfl
   simp only[e,iT,J0p (show s<(numsL a (nmF P a)).length by omega),J0p (show t<(numsL a (nmF P a)).length by omega),iN,g1,g2,oS,cell_c,asI_c]
   rw[show(U.st [.c (.int .i64 (nmF P a s)), .c (.int .i64 (nmF P a t)), .c (.int .i64 es[i].n), .c (.int .i64 es[i].v)])=uE ⟨nmF P a s,nmF P a t,es[i].n,es[i].v⟩from rfl,hap]
   simp only[oS,K0A,q0b (show i<=1000000000 by omega),List.map_append,List.map_cons,List.map_nil,hne]
   rfl
  ·simp only[e,iF,List.append_nil,K0A,q0b (show i<=1000000000 by omega),bF]
   rfl
theorem z1M{z1 z2 z3:Sx}(hz:z2=sxG 4 []/\z3=sxG 1 []): ∀(d i:Nat),i+d=a->
  y29_1 M (a:Int) (uIs b1 l) (uEs b2 es) (uLs b3 xs) 0 (setU P) (i:Int) z1 z2 z3 ⟨true,1,(numsL a (nmF P i)).map uI⟩ (sxI (oldL P i))=some (.tup (trimP P a l es xs)):=by
 intro d
 induction d with
 |zero=>
  intro i hi
  obtain rfl:i=a:=by omega
  have h66:y66 M (uIs b1 l) (setU P) (Sx.fz ⟨true,1,(numsL i (nmF P i)).map uI⟩)=some (.sl (sxI (refK P i l))):=w1e hP (bn:=true) hl hll
  rw[Z0Z hl]at h66
  have h3:=z1L (M:=M) (b2:=b2) (b3:=b3) hP ha hok he hx hl hll hxs (n0:=((oldL P i).length:Nat)) (z1:=z1) (z2:=z2) (z3:=z3) (s1:=sxI (keptL (numF P i) l)) (s3:=sxG 1 []) (o:=sxI (oldL P i)) (u1:=uIs b1 l) es.length 0 (by omega)
  have h5:=z1K (M:=M) (b3:=b3) hP ha hok he hx hl hll hxs (n0:=((oldL P i).length:Nat)) (z1:=z1) (z2:=z2) (z3:=z3) (s1:=sxI (keptL (numF P i) l)) (s2:=sxG 4 ((keptE (numF P i) es).map uE)) (o:=sxI (oldL P i)) (u1:=uIs b1 l) (u2:=uEs b2 es) xs.length 0 (by omega)
  rw[show((0:Nat):Int)=0 from rfl]at h3 h5
  rw[K0x]
  simp only[Int.lt_irrefl,dF,bF,iF,h66,oS,asSl_sl,Q0k,List.length_map]
  refine h3.trans (h5.trans ?_)
  rw[J0H,J0H,w1b,w1b,List.isEmpty_map,List.isEmpty_map]
  rfl
 |succ d ih=>
  intro i hi
  have hia:i<a:=by omega
  obtain⟨p1,_⟩:=j0d (show i<P.length by omega)
  have d1:P.getD i false=P[i]:=by rw[lG,p1];rfl
  have hol:=Q0Y P i
  have hs:=J0U (P:=P) (i:=i)
  have hnl:((numsL a (nmF P i))).length=a:=by simp[numsL]
  have hi':=ih (i+1) (by omega)
  rw[K0x]
  simp only[show((i:Int)<(a:Int)) by omega,dY,iT,setU,z0q p1,oS,cell_c,asB_c]
  cases e:P[i]with
  |true=>
   rw[d1,if_pos e]at hs
   have hpp:P.getD i false=true:=by rw[d1];exact e
   have hput:=k1k (l:=numsL a (nmF P i)) (k:=i) (x:=((oldL P i).length:Int)) (by omega)
   rw[q1d hia,z1I hpp]at hput
   simp only[iT,J0p (show i<(numsL a (nmF P i)).length by omega),iN,Q0k,List.length_map]
   rw[show(U.c (.int .i64 (((oldL P i).length:Nat):Int)))=uI ((oldL P i).length:Int)from rfl,hput]
   simp only[oS,Z0K _ _ (show(oldL P i).length<=1000000000 by omega),K0y,q0b (show i<=1000000000 by omega)]
   rw[<-hs]
   exact hi'
  |false=>
   rw[d1,if_neg (by rw[e];simp),List.append_nil]at hs
   simp only[bF,iF,K0y,q0b (show i<=1000000000 by omega)]
   rw[<-hs,z1J (show¬P.getD i false=true by rw[d1,e];simp)]
   exact hi'
theorem J1p(h40:y40 M (a:Int) (uIs b1 l) (uEs b2 es) (uLs b3 xs)=some (.val (setU P))):y29 M (a:Int) (uIs b1 l) (uEs b2 es) (uLs b3 xs)=some (.tup (trimP P a l es xs)):=by
 have hz:(⟨true,1,(List.replicate a (.c (.int .i64 0)):List U)⟩:Sx)=⟨true,1,(numsL a (nmF P 0)).map uI⟩:=by
  congr 1
  refine List.ext_getElem? fun k=> ?_
  rw[List.getElem?_replicate,List.getElem?_map]
  by_cases hk:k<a
  ·rw[if_pos hk,j0B hk]
   simp[nmF]
  ·rw[if_neg hk,List.getElem?_eq_none (by simp[numsL];omega)]
   rfl
 rw[Q1y,h40]
 simp only[oS,toU_val,show U.one (setU P)=some (setU P)from rfl,iN]
 rw[if_pos ⟨by omega,by omega,trivial⟩,hz]
 exact z1M hP ha hok he hx hl hll hxs (M:=M) (b1:=b1) (b2:=b2) (b3:=b3) ⟨rfl,rfl⟩ a 0 (by omega)
end
end Go.Proofs.Ytglkhoamnmiolaa.R
