/- - -/
import Derived.Test.YtglkhoamnmiolaaKr
import Derived.Test.YtglkhoamnmiolaaTy
import Derived.SizedLaws
set_option linter.all false
namespace Go.Proofs.Ytglkhoamnmiolaa.R
open Go Go.Proofs.Ytglkhoamnmiolaa.Vm
theorem w1D:HasB MB:=fun us=>⟨rfl,rfl⟩
theorem j1o:y8 MB=some (.val (.c (.bool true))):=by
 unfold y8 yrunM
 rw[w0w]
 kernel_rfl
theorem ylawB{f:FuncId}(hf:md f=[.sc]){us:List U}{vs:List V}{H:Heap}
  (h:Vm.yrun yExtB yprog md f 0 (us.map .val) []=some (.val (.c (.bool true)))) (hv:UVs H (fun i=>i<H.next) us vs): ∃H',Vm.run (awExt 8) (progOf 8 prog true) H.next f 0 (vs.map .val) H=some (.c (.bool true),H'):=by
 obtain⟨v,H',F',h1, -, -, -, -, -,h2⟩:=k0B (vext:=awExt 8) (yext:=yExtB) (prog:=progOf 8 prog true) (lim:=H.next) Q0x (j1s _) f us _ h H (fun i=>i<H.next) vs (nR _) (fun _ h=>h) hv
 rw[hf]at h2
 obtain⟨_,h3⟩:=h2
 exact⟨H',by rw[<-h3.c_eq];exact h1⟩
def Small(us:List U):Prop:= ∀x y b4 w0 b5 w1,us=[x,y, .st [uIs b4 w0,uIs b5 w1]]->w0.length+w1.length<=2 ^ 50
theorem combines_all(us:List U)(h:TyPs [.struct [.int .i64, .sl [.int .i64], .sl [.int .i64, .int .i64, .int .i64, .int .i64], .sl [.sl [.int .i64]]], .struct [.int .i64, .sl [.int .i64], .sl [.int .i64, .int .i64, .int .i64, .int .i64], .sl [.sl [.int .i64]]], .struct [.sl [.int .i64], .sl [.int .i64]]] us)(hs:Small us):
  Vm.yrun yExtB yprog md 7 0 (us.map .val) []=some (.val (.c (.bool true))):=by
 obtain⟨u1,_,rfl,h1,u2,_,rfl,h2,u3,_,rfl,h3,rfl⟩:=h
 obtain⟨a,b1,l,b2,es,b3,xs,rfl⟩:=X0w h1
 obtain⟨b,b4,l',b5,es',b6,xs',rfl⟩:=X0w h2
 obtain⟨b7,w0,b8,w1,rfl⟩:=z1W h3
 exact Q1J (M:=MB) w1D j1o (hs _ _ _ _ _ _ rfl)
def sliceAt(P:Program)(T:TypeId)(k:Nat):Bool:=match P.underlying T with
 |some (.struct fs)=>match fs[k]? with
  |some f=>f.offset==k&&P.cellsOf f.type==1&&(match P.underlying f.type with
   |some (.slice e)=>decide (1<=P.bytesOf e)
   |_=>false)
  |none=>false
 |_=>false
section
variable{D:Type}{enc:TypeId×Value->D}{P:Program}{W:World}{base:Nat}
theorem w0a{T:TypeId}{k:Nat}(hs:sliceAt P T k=true){v:Value}{dd:DataW D}{ps:List MemPlace}(h:DataW.Trod enc P W base (fun _=>true) true T v dd ps)(hz: ∀n∈dd.weights P T,n<=reachBytes)
  {φ:Phi} {lim:Nat} {cs:List C} (hv:VRel lim φ (.agg cs) v) {c:C} (hcs:cs[k]? =some c) {H:Heap} {F:Nat->Prop} {b:Bool} {l:List Int} (hc:UC H F (uIs b l) [c]):l.length<=reachBytes:=by
 unfold sliceAt at hs
 split at hs
 rotate_left
 ·cases hs
 rename_i fs hu
 split at hs
 rotate_left
 ·cases hs
 rename_i f hf
 simp only[bA,beq_iff_eq]at hs
 obtain⟨⟨ho,hc1⟩,hs⟩:=hs
 split at hs
 rotate_left
 ·cases hs
 rename_i e he
 have hb:=of_decide_eq_true hs
 obtain⟨fuel,h⟩:=h
 cases hv with
 |agg hv=>
  rename_i arr
  obtain⟨u,hu1,hu2⟩:=hv.get hcs
  obtain⟨xs,n,_,hx,hlen,hxs,hfl⟩:=DataW.trod_struct hu h
  have hk:k<arr.toList.length:=(gE.1 hu1).1
  have h1:=hfl k f hf
  have e1:((Value.agg arr).cells.toList.drop f.offset).take (P.cellsOf f.type)=[u]:=by
   rw[ho,hc1]
   show(arr.toList.drop k).take 1=[u]
   rw[List.drop_eq_getElem_cons hk]
   have:=(gE.1 hu1).2
   simp[this]
  rw[e1]at h1
  have hkf:k<fs.size:=(Array.getElem?_eq_some_iff.1 hf).1
  obtain⟨x,hxk⟩: ∃x,xs[k]? =some x:=⟨_,List.getElem?_eq_getElem (by omega)⟩
  rw[hxk]at h1
  rcases hc with⟨_,h0,_⟩ |⟨_,i,o,cells,sz,e2,_⟩
  ·have:l=[]:=by simpa using h0
   subst this;exact Nat.zero_le _
  ·have e3:c= .slice i o l.length:=by simpa using e2
   subst e3
   have hlen2: ∃a cap,u= .slice (some a) l.length cap:=by
    generalize l.length=n at hu2
    cases hu2 with
    |slice _ _ _ _=>exact⟨_,_,rfl⟩
    |slice0 _=>exact⟨_,_,rfl⟩
   obtain⟨a,cap,rfl⟩:=hlen2
   rcases DataW.trod_slice he h1 with⟨e4,_⟩ |⟨a',len,cap',elems,rest,m,_,e4,e5,_,_,_,e6,_⟩
   ·cases e4
   ·cases e4
    have hd:dd= .agg (xs.map (·.1)):=congrArg Prod.fst hx
    subst hd
    have hw:(elems.length+rest.length)*P.bytesOf e∈DataW.weights P T (.agg (xs.map (·.1))):=by
     unfold DataW.weights
     rw[hu]
     refine DataW.weights_mem_each (j:=k) (t:=f.type) (d:=x.1) (by rw[List.getElem?_map,Array.getElem?_toList,hf];rfl) (by rw[List.getElem?_map,hxk];rfl) _ ?_
     rw[e5]
     unfold DataW.weights
     rw[he]
     simp
    have:=hz _ hw
    have h2:l.length*1<=(elems.length+rest.length)*P.bytesOf e:=Nat.mul_le_mul (by omega) hb
    omega
theorem w0b: ∀{ts:List TypeId} {vs:List Value} {ds:List (DataW D)} {ps:List MemPlace},DataW.TrodAll enc P W base (fun _=>true) true ts vs ds ps-> ∀(j:Nat) t v,ts[j]? =some t->vs[j]? =some v-> ∃d p,ds[j]? =some d/\DataW.Trod enc P W base (fun _=>true) true t v d p
 | [],vs,ds,ps,h,j,t,v,ht,hv=>by simp at ht
 |t0::ts,vs,ds,ps,h,j,t,v,ht,hv=>by
  obtain⟨v0,vs',d0,ds',p,q,rfl,rfl,rfl,h1,h2⟩:=ChangeShapes.trodAll_cons h
  cases j with
  |zero=>
   simp only[List.getElem?_cons_zero,oI]at ht hv
   subst ht hv
   exact⟨d0,p,rfl,h1⟩
  |succ j=>exact w0b h2 j t v (by simpa using ht) (by simpa using hv)
theorem small_of{ts vts:List TypeId}{args:List Value}{ds gs:List (DataW D)}{ps:List MemPlace}(hA:DataW.TrodAll enc P W base (fun _=>true) true ts args ds ps)(hz:(DataW.weightsEach P (ts++vts) (ds++gs)).all (· <=reachBytes)=true)
  (hT:(ts[2]?).any (fun T=>sliceAt P T 0&&sliceAt P T 1)=true) {lim:Nat} {φ:Phi} {vs:List V} (hvs:VsRel lim φ vs args) {H:Heap} {F:Nat->Prop} {us:List U} (hus:UVs H F us vs):Small us:=by
 rintro x y b4 w0 b5 w1 rfl
 obtain⟨v1,_,rfl,_,v2,_,rfl,_,v3,_,rfl,g3,rfl⟩:=hus
 obtain⟨c1,c2,rfl,k1,k2⟩:=K0B g3
 obtain⟨T,hT1,hT2⟩: ∃T,ts[2]? =some T/\(sliceAt P T 0&&sliceAt P T 1)=true:=by
  cases h:ts[2]? with
  |none=>rw[h]at hT;cases hT
  |some T=>rw[h]at hT;exact⟨T,rfl,hT⟩
 rw[bA]at hT2
 obtain⟨v,hv1,hv2⟩:=hvs.get (j:=2) rfl
 obtain⟨d,p,hd1,hd2⟩:=w0b hA 2 T v hT1 hv1
 have hw: ∀n∈d.weights P T,n<=reachBytes:=fun n hn=>by
  have hlt:=(gE.1 hT1).1
  have hlt2:=(gE.1 hd1).1
  have:=List.all_eq_true.1 hz n (DataW.weights_mem_each (j:=2) (t:=T) (d:=d) (by rw[List.getElem?_append_left hlt];exact hT1) (by rw[List.getElem?_append_left hlt2];exact hd1) n hn)
  simpa using this
 have a1:=w0a hT2.1 hd2 hw hv2 (k:=0) (c:=c1) rfl k1
 have a2:=w0a hT2.2 hd2 hw hv2 (k:=1) (c:=c2) rfl k2
 unfold reachBytes at a1 a2
 omega
end
end Go.Proofs.Ytglkhoamnmiolaa.R
