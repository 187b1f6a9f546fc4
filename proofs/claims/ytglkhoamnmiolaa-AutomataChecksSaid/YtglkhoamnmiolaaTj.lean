/- - -/
import Derived.Test.YtglkhoamnmiolaaTi
import Derived.Test.YtglkhoamnmiolaaTe
set_option linter.all false
namespace Go.Proofs.Ytglkhoamnmiolaa.R
open Go Go.Proofs.Ytglkhoamnmiolaa.Vm
theorem j0y{b p n y:Nat}(h:y<n):C.elem 1 (.slice b p n) (y:Int)=some (b,p+y):=by
 simp only[C.elem]
 rw[if_pos ⟨by omega,by omega⟩];simp
def BM(H:Heap)(j p:Nat)(out:List Bool):Prop:= ∃cs,H.get j=some (.cells 1 cs)/\p+out.length<=cs.length/\(cs.drop p).take out.length=out.map C.bool
theorem BM.ld{H:Heap}{j p:Nat}{out:List Bool}(h:BM H j p out){k:Nat}{b:Bool}(hk:out[k]? =some b):Heap.ld H j (p+k)=some (.bool b):=by
 obtain⟨cs,h1,h2,h3⟩:=h
 rw[q0x h1]
 exact z0r h3 (by simp[hk])
theorem BM.st{H:Heap}{j p lim:Nat}{out:List Bool}(h:BM H j p out)(hl:lim<=j){k:Nat}(b:Bool)(hk:k<out.length): ∃H',Heap.st lim H j (p+k) [.bool b]=some H'/\BM H' j p (out.set k b)/\H'.next=H.next/\(∀i,i≠j->H'.get i=H.get i)/\ ∃o,H'=H.put j o:=by
 obtain⟨cs,h1,h2,h3⟩:=h
 refine⟨_,j0f h1 hl (by omega),⟨_,put_same _ _ _,by simpa using h2, ?_⟩,rfl,fun i hi=>q0d hi,_,rfl⟩
 rw[List.drop_set,if_neg (by omega),List.length_set,List.take_set,h3,List.map_set]
 congr 1
 omega
theorem BM.keep{H H':Heap}{j p:Nat}{out:List Bool}(h:BM H j p out)(e:H'.get j=H.get j):BM H' j p out:=by
 obtain⟨cs,h1,h2⟩:=h
 exact⟨cs,by rw[e];exact h1,h2⟩
structure Sp (H1:Heap) (jm pm:Nat) (H:Heap) (out:List Bool) (c:C) (q:List Int):Prop where
 mr:BM H jm pm out
 qq:OInts H H1.next c q
 fr: ∀i,i<H1.next->i≠jm->H.get i=H1.get i
section
variable{H1 H:Heap}{lim jm pm:Nat}{out:List Bool}{c:C}{q:List Int}
theorem Sp.nx(h:Sp H1 jm pm H out c q):H1.next<=H.next:=h.qq.1
theorem Sp.ucf(h:Sp H1 jm pm H out c q){F:Nat->Prop}(hF: ∀i,F i->i<H1.next/\i≠jm){u:U}{xs:List C}(hu:UC H1 F u xs):UC H F u xs:=hu.mono ⟨fun _ h=>h,fun i hi=>h.fr i (hF i hi).1 (hF i hi).2⟩
theorem Sp.ld(h:Sp H1 jm pm H out c q){k:Nat}{b:Bool}(hk:out[k]? =some b):Heap.ld H jm (pm+k)=some (.bool b):=h.mr.ld hk
theorem Sp.mark(h:Sp H1 jm pm H out c q)(hl:lim<=jm)(hj:jm<H1.next){k:Nat}(hk:k<out.length): ∃H',Heap.st lim H jm (pm+k) [.bool true]=some H'/\Sp H1 jm pm H' (out.set k true) c q:=by
 obtain⟨H',a1,a2,a3,a4,o,rfl⟩:=h.mr.st hl true hk
 refine⟨_,a1,a2,j0a h.qq fun j p n e=> ?_,fun i hi hne=>by rw[a4 i hne];exact h.fr i hi hne⟩
 rcases h.qq.2.2 with⟨e',_⟩ |⟨i,o,cs,e',h2,_⟩
 ·rw[e]at e';cases e'
 ·rw[e]at e';cases e';omega
theorem Sp.push(h:Sp H1 jm pm H out c q)(hl:lim<=jm)(hj:jm<H1.next)(x:Int)(hroom:q.length+1<=2 ^ 36):
  Heap.cellsOf (H.alloc (.cells 1 [.int .i64 x])) 1 (.slice H.next 0 1)=some [.int .i64 x]/\ ∃c' H',Heap.app lim (H.alloc (.cells 1 [.int .i64 x])) 1 c [.int .i64 x] 1=some (c',H')/\Sp H1 jm pm H' out c' (q++[x]):=by
 obtain⟨a1,c',H',a2,a3,a4,a5⟩:=h.qq.append1 (lim:=lim) (by omega) x hroom
 have hn:=h.nx
 have hc: ∀i,i<H1.next-> ∀o n,c≠ .slice i o n:=fun i hi o n e=>by
  rcases h.qq.2.2 with⟨e',_⟩ |⟨i',o',cs,e',h2,_⟩
  ·rw[e]at e';cases e'
  ·rw[e]at e';cases e';omega
 refine⟨a1,c',H',a2, ?_,a3,fun i hi hne=> ?_⟩
 ·exact h.mr.keep (a4.keep jm (by omega) (hc jm hj))
 ·rw[a4.keep i (by omega) (hc i hi)];exact h.fr i hi hne
theorem Sp.pop{s:Int}(h:Sp H1 jm pm H out c (s::q)): ∃p c5,C.elem 1 c 0=some p/\H.ld p.1 p.2=some (.int .i64 s)/\Heap.sub lim H 1 c 1 none=some c5/\Sp H1 jm pm H out c5 q:=by
 obtain⟨p,a1,a2⟩:=h.qq.ints.read (j:=0) (v:=s) rfl
 have e0:((0:Nat):Int)=0:=rfl
 rw[e0]at a1
 obtain⟨hb,hr,h0 |⟨i,o,cs,he,h2,h3,h4,h5,h6⟩⟩:=h.qq
 ·simp at h0
 ·simp only[List.map_cons,List.length_cons,List.length_map]at he h5 h6
  subst he
  have hsub:Heap.sub lim H 1 (.slice i o (q.length+1)) 1 none=some (.slice i (o+1) q.length):=by
   have hbad:H.szBad i 1=false:=by simp[Heap.szBad,h4]
   simp only[Heap.sub,hbad,bF,and_false,iF,Option.getD_none]
   rw[if_pos (by omega)]
   simp
  refine⟨p,_,a1,a2,hsub,h.mr,⟨hb,fun r hr'=>hr r (by simp at hr'⊢;exact .inr hr'), .inr ⟨i,o+1,cs,by simp,h2,h3,h4,by simp;omega, ?_⟩⟩,h.fr⟩
  simp only[List.length_map]
  have e:(cs.drop (o+1)).take (q.length*1)=((cs.drop o).take ((q.length+1)*1)).drop 1:=by
   rw[List.drop_take,List.drop_drop];congr 1
  rw[e,h6]
  simp[rowI]
end
section
variable{M:Mach}{H1:Heap}{F:Nat->Prop}{jm pm n:Nat}{g:C}{bb:Bool}{rows:List (Bool×List Int)}{src:Nat->Prop}
variable(hl:M.lim<=jm)(hj:jm<H1.next)(hF: ∀i,F i->i<H1.next/\i≠jm)(hg:UC H1 F (uLs bb rows) [g])(hT:Table n rows)(hn:n<=1000000)
include hl hj hF hg hT hn
def SpEnd(H1:Heap)(jm pm n:Nat)(rows:List (Bool×List Int))(src:Nat->Prop)(r:Rs):Prop:=
 ∃H' out' c',r=some (.tuple [],H')/\Sp H1 jm pm H' out' c' []/\out'.length=n/\ ∀i,inB out' i↔ ∃s,src s/\Rch (nxL rows) s i
theorem q1J{x:Nat}(hx:x<n){r:Bool×List Int}(hr:rows[x]? =some r){c7:C}(h7:UC H1 F (uIs r.1 r.2) [c7]){d:Nat}(hd:d<=3000000)
  (ih: ∀(H:Heap) (out:List Bool) (c:C) (op:List Int),Sp H1 jm pm H out c op->cf out+op.length<=d->SI rows n src out op none->SpEnd H1 jm pm n rows src (f94_3 M g (.slice jm pm n) c H)):
  ∀(e k:Nat) (H:Heap) (out:List Bool) (c:C) (op:List Int),k+e=r.2.length->Sp H1 jm pm H out c op->cf out+op.length<=d->SI rows n src out op (some (x,k))->
   SpEnd H1 jm pm n rows src (f94_4 M g (.slice jm pm n) c c7 (r.2.length:Int) (k:Int) H):=by
 have hrx:rows.getD x (false,[])=r:=by rw[lG,hr];rfl
 have hlen:=w0A hT hr
 intro e
 induction e with
 |zero=>
  intro k H out c op hk ho hd' hI
  rw[W0w]
  simp only[show¬((k:Int)<(r.2.length:Int)) by omega,dF,bF,iF]
  exact ih H out c op ho hd' (hI.left hT (by rw[hrx];omega))
 |succ e ihe=>
  intro k H out c op hk ho hd' hI
  have hlt:k<r.2.length:=by omega
  obtain⟨y0,y1⟩:=hT.2.1 _ (List.mem_of_getElem? hr) _ (lM hlt)
  obtain⟨y,hy⟩:=iZ y0
  have hget:r.2[k]? =some (y:Int):=by rw[q0a hlt,hy]
  have hget':(rows.getD x (false,[])).2[k]? =some (y:Int):=by rw[hrx];exact hget
  have hyn:y<n:=by omega
  have hyl:y<out.length:=by rw[hI.len];exact hyn
  obtain⟨a1,a2⟩:=j0d hyl
  obtain⟨i2,o2,k1,k2,k3⟩:=rdN (ho.ucf hF h7) hget
  have eI:IntKind.wrap .i64 ((k:Int)+1)=((k+1:Nat):Int):=q0b (by omega)
  rw[W0w]
  simp only[show((k:Int)<(r.2.length:Int)) by omega,dY,iT,k1,k3,oS,asI_int,j0y hyn,ho.ld a1,asB_bool]
  cases hv:out[y]with
  |true=>
   simp only[Bool.not_true,bF,iF,W0x,eI]
   exact ihe (k+1) H out c op (by omega) ho hd' (hI.skip hT hget' (a2.2 hv))
  |false=>
   rw[hv]at a1
   have hcf:=W0F a1
   obtain⟨H8,m1,m2⟩:=ho.mark hl hj hyl
   obtain⟨q1,c',H',q2,q3⟩:=m2.push hl hj (y:Int) (by omega)
   simp only[Bool.not_false,iT,m1,oS,q1,q2,W0x,eI]
   exact ihe (k+1) H' _ c' _ (by omega) q3 (by simp only[List.length_append,List.length_cons,List.length_nil];omega) (hI.mark hT hget' hyn fun z=>by simp)
theorem q1K: ∀(d:Nat),d<=3000000-> ∀(H:Heap) (out:List Bool) (c:C) (op:List Int),Sp H1 jm pm H out c op->cf out+op.length<=d->SI rows n src out op none->SpEnd H1 jm pm n rows src (f94_3 M g (.slice jm pm n) c H):=by
 have stop: ∀(H:Heap) (out:List Bool) (c:C),Sp H1 jm pm H out c []->SI rows n src out [] none->SpEnd H1 jm pm n rows src (f94_3 M g (.slice jm pm n) c H):=fun H out c ho hI=>by
  refine⟨H,out,c, ?_,ho,hI.len,fun i=>hI.done hT⟩
  rw[W0v]
  have hlen:C.len c=some 0:=by have:=ho.qq.ints.len;simpa using this
  simp only[hlen,oS,show¬((0:Int)<((0:Nat):Int)) by omega,dF,bF,iF]
 intro d
 induction d with
 |zero=>
  intro _ H out op c ho hd hI
  have:c=[]:=List.length_eq_zero_iff.1 (by omega)
  subst this
  exact stop H out _ ho hI
 |succ d ih=>
  intro hdn H out c op ho hd hI
  cases op with
  |nil=>exact stop H out c ho hI
  |cons x op=>
   obtain⟨j,rfl,g2,g3⟩:=hI.ops x (by simp)
   obtain⟨p,c5,p1,p2,p3,p4⟩:=ho.pop (lim:=M.lim)
   have hr:rows[j]? =some (rows[j]'(by rw[hT.1];exact g2)):=q0a (by rw[hT.1];exact g2)
   obtain⟨i1,o1,c7,r1,r2,r3,r4⟩:=rdL hg hr
   have r3':Heap.ld H i1 o1=some c7:=by
    obtain⟨i1',o1',c7',s1,s2,s3,s4⟩:=rdL (ho.ucf hF hg) hr
    rw[r1]at s1
    cases s1
    have hk:=ho.fr i1 (hF i1 r2).1 (hF i1 r2).2
    unfold Heap.ld at r3⊢
    rw[hk];exact r3
   have hlen:C.len c=some (op.length+1):=by have:=ho.qq.ints.len;simpa using this
   have hrl:=Q1s r4
   simp only[List.length_cons]at hd
   have:=q1J hl hj hF hg hT hn (src:=src) g2 hr r4 (d:=d) (by omega) (ih (by omega)) _ 0 H out c5 op (Nat.zero_add _) p4 (by omega)
    (hI.take hT g3 (fun z hz=>by rcases mC.1 hz with h |h;exact .inr h;exact .inl h) (fun z hz=>by simp[hz]))
   rw[W0v]
   simp only[hlen,oS,show((0:Int)<((op.length+1:Nat):Int)) by omega,dY,iT,p1,p2,asI_int,p3,r1,r3',hrl]
   exact this
theorem q1L{out:List Bool}(ho:out.length=n)(hsrc: ∀i,inB out i↔src i): ∀(d i:Nat) (H:Heap) (c:C) (op:List Int),i+d=n->op.length<=i->Sp H1 jm pm H out c op->(∀x∈op,∃j:Nat,x=j/\j<n/\inB out j)->(∀j,j<i->inB out j->(j:Int)∈op)->
  SpEnd H1 jm pm n rows src (f94_1 M g (.slice jm pm n) c (.slice jm pm n) (n:Int) (i:Int) H):=by
 intro d
 induction d with
 |zero=>
  intro i H c op hi hop h h1 h2
  rw[W0t]
  simp only[show¬((i:Int)<(n:Int)) by omega,dF,bF,iF]
  have:=q1a out
  refine q1K hl hj hF hg hT hn (src:=src) (cf out+op.length) (by omega) H out c op h (nR _) ⟨ho,fun i hi=>⟨i,(hsrc i).1 hi, .refl i⟩,fun s hs=>(hsrc s).2 hs,h1,fun x hx=> .inl (h2 x ?_ hx),fun x k e=>(by cases e)⟩
  have:=(gE.1 hx).1
  omega
 |succ d ih=>
  intro i H c op hi hop h h1 h2
  have hin:i<n:=by omega
  obtain⟨a1,a2⟩:=j0d (show i<out.length by omega)
  have eI:IntKind.wrap .i64 ((i:Int)+1)=((i+1:Nat):Int):=q0b (by omega)
  rw[W0t]
  simp only[show((i:Int)<(n:Int)) by omega,dY,iT,j0y hin,oS,h.ld a1,asB_bool]
  cases hv:out[i]with
  |false=>
   simp only[bF,iF,W0u,eI]
   refine ih (i+1) H c op (by omega) (by omega) h h1 fun j hj' hjb=> ?_
   by_cases e:j=i
   ·subst e;rw[a2,hv]at hjb;cases hjb
   ·exact h2 j (by omega) hjb
  |true=>
   obtain⟨q1,c',H',q2,q3⟩:=h.push hl hj (i:Int) (by omega)
   simp only[iT,q1,oS,q2,W0u,eI]
   refine ih (i+1) H' c' _ (by omega) (by simp only[List.length_append,List.length_cons,List.length_nil];omega) q3 (fun x hx=> ?_) fun j hj' hjb=> ?_
   ·rcases mA.1 hx with hx |hx
    ·exact h1 x hx
    ·exact⟨i,by simpa using hx,hin,a2.2 hv⟩
   ·by_cases e:j=i
    ·subst e;simp
    ·exact mA.2 (.inl (h2 j (by omega) hjb))
theorem q1M{out:List Bool}(ho:out.length=n)(hm:BM H1 jm pm out): ∃H' out',f94 M g (.slice jm pm n) H1=some (.tuple [],H')/\H1.next<=H'.next/\(∀i,i<H1.next->i≠jm->H'.get i=H1.get i)/\BM H' jm pm out'/\out'.length=n/\ ∀i,inB out' i↔ ∃s,inB out s/\Rch (nxL rows) s i:=by
 obtain⟨H',out',c',e1,e2,e3,e4⟩:=q1L hl hj hF hg hT hn (src:=inB out) ho (fun i=>Iff.rfl) n 0 H1 .nilSlice [] (by omega) (by simp) ⟨hm,Own.nil (nR _) 1,fun _ _ _=>rfl⟩ (fun x hx=>(by cases hx)) fun j hj'=>absurd hj' (Nat.not_lt_zero _)
 refine⟨H',out', ?_,e2.nx,e2.fr,e2.mr,e3,e4⟩
 rw[J1f]
 simp only[C.len,oS]
 exact e1
end
end Go.Proofs.Ytglkhoamnmiolaa.R
