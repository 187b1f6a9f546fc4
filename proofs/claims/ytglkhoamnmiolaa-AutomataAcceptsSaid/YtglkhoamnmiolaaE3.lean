/- - -/
import Derived.Test.YtglkhoamnmiolaaE2
import Derived.ProofKit
import Derived.OpenShut
import Derived.Carry
set_option linter.all false
namespace Go.Proofs.Ytglkhoamnmiolaa.Vm
open Go
inductive PK where
 |sc (s:Sc)
 |sl (ss:List Sc)
inductive PT where
 |one (k:PK)
 |struct (ks:List PK)
def cellIn(H:Heap):PK->C->Prop
 | .sc s,c=>scC s c
 | .sl ss,c=> ∃rows,Sl H c ss.length rows/\(∀r∈rows,Typed ss r)/\rows.length<=maxLen
def cellsIn(H:Heap):List PK->List C->Prop
 | [],cs=>cs=[]
 |k::ks,cs=> ∃c r,cs=c::r/\cellIn H k c/\cellsIn H ks r
def paramIn(H:Heap):PT->V->Prop
 | .one k,v=> ∃c,v= .c c/\cellIn H k c
 | .struct ks,v=> ∃cs,v= .agg cs/\cellsIn H ks cs
theorem cellIn.grow{H H':Heap}(g:Grow H H'): ∀{k:PK} {c:C},cellIn H k c->cellIn H' k c
 | .sc _,_,h=>h
 | .sl _,_,⟨rows,h1,h2,h3⟩=>⟨rows,h1.grow g,h2,h3⟩
theorem cellsIn.grow{H H':Heap}(g:Grow H H'): ∀{ks:List PK} {cs:List C},cellsIn H ks cs->cellsIn H' ks cs
 | [],_,h=>h
 |_::_,_,⟨c,r,h1,h2,h3⟩=>⟨c,r,h1,h2.grow g,h3.grow g⟩
theorem paramIn.grow{H H':Heap}(g:Grow H H'): ∀{d:PT} {v:V},paramIn H d v->paramIn H' d v
 | .one _,_,⟨c,h1,h2⟩=>⟨c,h1,h2.grow g⟩
 | .struct _,_,⟨cs,h1,h2⟩=>⟨cs,h1,h2.grow g⟩
theorem VRel.up{lim lim':Nat}(hl:lim<=lim'){φ:Phi}{x:V}{v:Value}(h:VRel lim φ x v):VRel lim' φ x v:=HRel.up.VRel.upp hl h
section
variable{D:Type}{enc:TypeId×Value->D}{P:Program}{w:World}{held:Bool}{fuel:Nat}{t:TypeId}{x:DataW D×List MemPlace}{b0:Nat}
end
theorem Ext.below{lim:Nat}{φ φ':Phi}{w w':World}(h:Ext lim φ w φ' w')(hφ: ∀j q,lim<=j->φ j≠some q):RowKit.Below w.heap.size w w':=
 ⟨h.os,h.tape,h.output,h.size,fun b hb=>h.same b hb fun j q hj hq=>absurd hq (hφ j q hj)⟩
theorem law_calls2{P:Program}{lim:Nat}{ext:FuncId->Env->Heap->Rs}{prog:FuncId->Option RFunc}(hext:CallOK lim P (fun f vs H=>ext f (vs.map .val) H))(hprog: ∀f rf,prog f=some rf->chkFunc P f rf=true){f:FuncId}{vs:List V}{H H':Heap}
  (h:Vm.run ext prog lim f 0 (vs.map .val) H=some (.c (.bool true),H')) {φ:Phi} {w:World} {args:Array Value} (hH:HRel lim φ H w) (hvs:VsRel lim φ vs args.toList) (hφ: ∀j q,lim<=j->φ j≠some q):
  Calls P f args w fun e w'=>e= .returned (.bool true)/\RowKit.Below w.heap.size w w'/\ ∀a,w'.frozen? a=w.frozen? a:=by
 refine(Z0w hext hprog h hH hvs).mono fun e w' he=> ?_
 obtain⟨v,φ',he,hv,_,hx⟩:=he
 cases hv with |c hv=>cases hv with |bool b=>exact⟨he,hx.below hφ,hx.froz⟩
section
variable{D:Type}{enc:TypeId×Value->D}{P:Program}
theorem w0h(hl:laidOutB P=true){W W':World}(hb:RowKit.Below W.heap.size W W'){sp:Nat->Bool}: ∀(ts:List TypeId) (vs:List Value) (ds:List (DataW D)) (ps:List MemPlace),(∀t∈ts,P.readableRec t=true/\t<P.types.size)->
  DataW.TrodAll enc P W 0 (fun _=>true) true ts vs ds ps->(∀p∈ps,p.block<W.heap.size)->(∀p∈ps,sp p.block=true)->DataW.TrodAll enc P W' 0 sp true ts vs ds ps
 | [],vs,ds,ps,_,h,_,_=>by
  obtain⟨rfl,rfl,rfl⟩:=ChangeShapes.trodAll_nil h
  exact ChangeShapes.trodAll_mk0
 |t::ts,vs,ds,ps,hr,h,hlt,hs=>by
  obtain⟨v,vs',d,ds',p,q,rfl,rfl,rfl,h1,h2⟩:=ChangeShapes.trodAll_cons h
  exact⟨p,q,WideElems.Trod_stays hl (hr t (by simp)).1 (hr t (by simp)).2 h1 (fun x hx=>hb.same (hlt x (by simp[hx]))) (fun x hx=>hs x (by simp[hx])),
   w0h hl hb ts vs' ds' q (fun t ht=>hr t (by simp[ht])) h2 (fun x hx=>hlt x (by simp[hx])) (fun x hx=>hs x (by simp[hx])),rfl⟩
theorem z0U{w:World}{base:Nat}{spare:Nat->Bool}{held:Bool}: ∀(ts:List TypeId) (vs:List Value) (ds:List (DataW D)) (ps:List MemPlace),DataW.TrodAll enc P w base spare held ts vs ds ps->ds.length=ts.length
 | [],vs,ds,ps,h=>by obtain⟨rfl,rfl,rfl⟩:=ChangeShapes.trodAll_nil h;rfl
 |t::ts,vs,ds,ps,h=>by
  obtain⟨v,vs',d,ds',p,q,rfl,rfl,rfl,h1,h2⟩:=ChangeShapes.trodAll_cons h
  simp[z0U ts vs' ds' q h2]
theorem law_post{f:Func}{s:ChangeSpec}{tb:TypeId}(hl:laidOutB P=true)(hrec: ∀t∈f.params.toList,P.readableRec t=true/\t<P.types.size)(hv:s.vars=[])(hres:f.resultTypes= #[tb])(hb:P.underlying tb=some .bool)
  (hfn: ∀ds:List (DataW D),ds.length=f.params.toList.length->s.fn D ds={results:=[.lit (.bool true)],args:=ds}) {W W':World} {args:Array Value} {ds gs:List (DataW D)} {before:List MemPlace}
  (hW:DataW.Whole enc P f.params.toList s.vars false W args.toList ds gs before) (hbel:RowKit.Below W.heap.size W W') (hfz: ∀a,W'.frozen? a=W.frozen? a):s.post enc P f false true false false W args (.bool true) W':=by
 have hW':=hW
 obtain⟨p,q,hA,hV,hbe,_,_⟩:=hW
 rw[hv]at hV
 obtain⟨rfl,rfl⟩:=ChangeShapes.trodVars_none hV
 have hlen:=z0U _ _ _ _ hA
 have hf:s.fn D (ds++[])={results:=[.lit (.bool true)],args:=ds}:=by rw[List.append_nil];exact hfn ds hlen
 rw[List.append_nil]at hbe
 subst hbe
 refine ChangeShapes.post_of_same (pa:=before) (pv:=[]) hW' (fun _ _ _=> ?_) (fun sp hs=> ?_) (fun sp _=> ?_) (by simp) (hbel.frame _) hfz ?_
 ·rw[hf,hres];exact Go.trodAll_cons_mk (RowKit.shut_bool hb true) ChangeShapes.trodAll_mk0
 ·rw[hf];exact w0h hl hbel _ _ _ _ hrec hA (fun x hx=>by simpa using hW'.lt x hx) hs
 ·rw[hf,hv];rfl
 ·intro j t r hj hr
  rw[hres]at hj hr
  cases j with
  |zero=>
   simp only[List.getElem?_toArray,List.getElem?_cons_zero,oI]at hj
   subst hj
   simp[Value.resultList]at hr
   subst hr
   exact RowKit.okWide_bool_mk hb true
  |succ j=>simp at hj
end
inductive NT where
 |int (k:IntKind)
 |bool
 |str
 |sl (row:List NT)
def fsN(P:Program)(one:TypeId->Option NT):Nat->List Field->Option (List NT)
 |_,[]=>some []
 |k,f::fs=>if f.offset=k/\P.cellsOf f.type=1 then(one f.type).bind fun s=>(fsN P one (k+1) fs).bind fun ss=>some (s::ss)else none
def rowOfN(P:Program)(one:TypeId->Option NT)(t:TypeId):Option (List NT):=match P.underlying t with
 |some (.struct fs)=>(fsN P one 0 fs.toList).bind fun ns=>if P.cellsOf t=ns.length/\0<ns.length then some ns else none
 |_=>if P.cellsOf t=1 then(one t).map fun s=>[s]else none
def ntOf(P:Program):Nat->TypeId->Option NT
 | 0,_=>none
 |d+1,t=>match P.underlying t with
  |some (.int k)=>some (.int k)
  |some .bool=>some .bool
  |some .string=>some .str
  |some (.slice e)=>(rowOfN P (ntOf P d) e).map .sl
  |_=>none
mutual
def cellN(H:Heap):NT->C->Prop
 | .int k,c=> ∃n,c= .int k n/\(Lit.int k n).wf=true
 | .bool,c=> ∃b,c= .bool b
 | .str,c=> ∃s,c= .str s/\s.size<=maxLen
 | .sl row,c=> ∃rows,Own H 0 c row.length rows/\(∀r∈rows,rowN H row r)/\rows.length<=maxLen
def rowN(H:Heap):List NT->List C->Prop
 | [],cs=>cs=[]
 |n::ns,cs=> ∃c r,cs=c::r/\cellN H n c/\rowN H ns r
end
mutual
theorem cellN.grow{H H':Heap}(g:Grow H H'): ∀{n:NT} {c:C},cellN H n c->cellN H' n c
 | .int _,_,h=>by simp only[cellN]at h⊢;exact h
 | .bool,_,h=>by simp only[cellN]at h⊢;exact h
 | .str,_,h=>by simp only[cellN]at h⊢;exact h
 | .sl row,_,h=>by
  simp only[cellN]at h⊢
  obtain⟨rows,h1,h2,h3⟩:=h
  exact⟨rows,h1.grow g,fun r hr=>rowN.grow g (h2 r hr),h3⟩
theorem rowN.grow{H H':Heap}(g:Grow H H'): ∀{ns:List NT} {cs:List C},rowN H ns cs->rowN H' ns cs
 | [],_,h=>by simp only[rowN]at h⊢;exact h
 |n::ns,_,h=>by
  simp only[rowN]at h⊢
  obtain⟨c,r,h1,h2,h3⟩:=h
  exact⟨c,r,h1,cellN.grow g h2,rowN.grow g h3⟩
end
theorem rowN.length{H:Heap}: ∀{ns:List NT} {cs:List C},rowN H ns cs->cs.length=ns.length
 | [],cs,h=>by simp only[rowN]at h;subst h;rfl
 |n::ns,cs,h=>by
  simp only[rowN]at h
  obtain⟨c,r,rfl,_,h2⟩:=h
  simp[rowN.length h2]
def HasBlock(w:World):Prop:= ∃(b:Nat) (A:Array Value) (el:TypeId) (fz:Nat×Nat),w.heap[b]? =some (.cells A el fz)
def slice0V(v:Value):Prop:= ∃a,v= .slice (some a) 0 0
section
variable{D:Type}{enc:TypeId×Value->D}{P:Program}{w:World}{base:Nat}{held:Bool}
def InOne(w:World)(n:NT)(v:Value):Prop:= ∀(φ:Phi) (H:Heap),HRel H.next φ H w-> ∃H' φ' c,HRel H'.next φ' H' w/\(∀i p,φ i=some p->φ' i=some p)/\Grow H H'/\CRel H'.next φ' c v/\cellN H' n c
def InRow(w:World)(ns:List NT)(vs:List Value):Prop:= ∀(φ:Phi) (H:Heap),HRel H.next φ H w-> ∃H' φ' r,HRel H'.next φ' H' w/\(∀i p,φ i=some p->φ' i=some p)/\Grow H H'/\CsRel H'.next φ' r vs/\rowN H' ns r
theorem w0V{one:TypeId->Option NT}{n:Nat}(hone: ∀t nt v x,one t=some nt->DataW.trod enc P w base (fun _=>true) held n t [v]=some x->(slice0V v->HasBlock w)->InOne w nt v):
  ∀(fs:List Field) (k:Nat) (ns:List NT) (cs:List Value),fsN P one k fs=some ns->cs.length=k+ns.length->
  (∀(i:Nat) f,fs[i]? =some f-> ∃x,DataW.trod enc P w base (fun _=>true) held n f.type ((cs.drop f.offset).take (P.cellsOf f.type))=some x)->(∀v∈cs,slice0V v->HasBlock w)->InRow w ns (cs.drop k)
 | [],k,ns,cs,hk,hl,_,_,φ,H,hH=>by
  simp only[fsN]at hk;cases hk
  refine⟨H,φ,[],hH,fun _ _ h=>h, .refl _, ?_,by simp[rowN]⟩
  rw[dL (by simp at hl;omega)];exact .nil
 |f::fs,k,ns,cs,hk,hl,ht,hz,φ,H,hH=>by
  simp only[fsN]at hk
  split at hk
  ·rename_i ho
   obtain⟨ho,hc1⟩:=ho
   obtain⟨s,hs,hk⟩:=oB.1 hk
   obtain⟨ss,hss,hk⟩:=oB.1 hk
   cases hk
   have hlt:k<cs.length:=by simp at hl;omega
   obtain⟨x,hx⟩:=ht 0 f rfl
   rw[hc1,ho]at hx
   have he:(cs.drop k).take 1=[cs[k]]:=by rw[List.drop_eq_getElem_cons hlt];rfl
   rw[he]at hx
   obtain⟨H1,φ1,c,a1,a2,a3,a4,a5⟩:=hone _ _ _ _ hs hx (hz _ (lM hlt)) φ H hH
   obtain⟨H2,φ2,row,b1,b2,b3,b4,b5⟩:=w0V hone fs (k+1) ss cs hss (by simp at hl;omega) (fun i g hg=>ht (i+1) g (by simpa using hg)) hz φ1 H1 a1
   refine⟨H2,φ2,c::row,b1,fun i p hp=>b2 i p (a2 i p hp),a3.trans b3, ?_,by simp only[rowN];exact⟨c,row,rfl,a5.grow b3,b5⟩⟩
   rw[List.drop_eq_getElem_cons hlt]
   exact .cons ((a4.mono b2).up b3.next) b4
  ·cases hk
theorem Y0j{one:TypeId->Option NT}{t:TypeId}{ns:List NT}(hr:rowOfN P one t=some ns):P.cellsOf t=ns.length/\0<ns.length:=by
 unfold rowOfN at hr
 split at hr
 ·obtain⟨ns',hns,hr⟩:=oB.1 hr
  split at hr
  ·rename_i hcl;cases hr;exact hcl
  ·cases hr
 ·split at hr
  ·rename_i hc1
   obtain⟨s,hs,rfl⟩:=oM.1 hr
   exact⟨hc1,by simp⟩
  ·cases hr
theorem K1c{one:TypeId->Option NT}{fuel:Nat}(hone: ∀n t nt v x,one t=some nt->DataW.trod enc P w base (fun _=>true) held n t [v]=some x->(slice0V v->HasBlock w)->InOne w nt v)
  {t:TypeId} {ns:List NT} (hr:rowOfN P one t=some ns) {vs:List Value} {x:DataW D×List MemPlace} (hl:vs.length=P.cellsOf t) (h:DataW.trod enc P w base (fun _=>true) held fuel t vs=some x) (hz: ∀v∈vs,slice0V v->HasBlock w):InRow w ns vs:=by
 unfold rowOfN at hr
 split at hr
 ·rename_i fs hu
  obtain⟨ns',hns,hr⟩:=oB.1 hr
  split at hr
  ·rename_i hcl
   cases hr
   obtain⟨xs,n,_,_,_,hlen,hf⟩:=DataW.trod_struct hu h
   have:=w0V (n:=n) (base:=base) (held:=held) (enc:=enc) (fun t nt v x=>hone n t nt v x) fs.toList 0 ns vs hns (by omega) (fun i f hfi=>by
    have hfi':fs[i]? =some f:=by rw[<-Array.getElem?_toList];exact hfi
    have hlt:i<xs.length:=by rw[hlen];exact(Array.getElem?_eq_some_iff.1 hfi').1
    exact⟨xs[i],by have:=hf i f hfi';simpa only[List.getElem?_eq_getElem hlt]using this⟩) hz
   rwa [List.drop_zero]at this
  ·cases hr
 ·split at hr
  ·rename_i hc1
   obtain⟨s,hs,rfl⟩:=oM.1 hr
   match vs,(by omega:vs.length=1)with
   | [v],_=>
    intro φ H hH
    obtain⟨H',φ',c,h1,h2,h3,h4,h5⟩:=hone _ _ _ _ _ hs h (hz v (by simp)) φ H hH
    exact⟨H',φ',[c],h1,h2,h3, .cons h4 .nil,by simp only[rowN];exact⟨c,[],rfl,h5,rfl⟩⟩
  ·cases hr
theorem Q1V: ∀(d n:Nat) (t:TypeId) (nt:NT) (v:Value) (x:DataW D×List MemPlace),ntOf P d t=some nt->DataW.trod enc P w base (fun _=>true) held n t [v]=some x->(slice0V v->HasBlock w)->InOne w nt v
 | 0,n,t,nt,v,x,hn,_,_,φ,H,hH=>by simp[ntOf]at hn
 |d+1,n,t,nt,v,x,hn,h,hz,φ,H,hH=>by
  simp only[ntOf]at hn
  split at hn
  ·rename_i k hu
   cases hn
   obtain⟨m,e,_,hw⟩:=DataW.trod_int hu h
   cases e
   exact⟨H,φ, .int k m,hH,fun _ _ h=>h, .refl _, .int k m,by simp only[cellN];exact⟨m,rfl,hw⟩⟩
  ·rename_i hu
   cases hn
   obtain⟨b,e,_⟩:=DataW.trod_bool hu h
   cases e
   exact⟨H,φ, .bool b,hH,fun _ _ h=>h, .refl _, .bool b,by simp only[cellN];exact⟨b,rfl⟩⟩
  ·rename_i hu
   cases hn
   obtain⟨s,e,_,hl⟩:=DataW.trod_string hu h
   cases e
   exact⟨H,φ, .str s,hH,fun _ _ h=>h, .refl _, .str s,by simp only[cellN];exact⟨s,rfl,hl⟩⟩
  ·rename_i e hu
   obtain⟨row,hrow,rfl⟩:=oM.1 hn
   rcases DataW.trod_slice hu h with⟨h0,_⟩ |⟨a,len,cap,elems,rest,m,_,hv,_,hb,hl,hm,hlen,hel,hsp,_⟩
   ·cases h0
    exact⟨H,φ, .nilSlice,hH,fun _ _ h=>h, .refl _, .nilSlice,by simp only[cellN];exact⟨[],Own.nil (Nat.zero_le _) _,fun _ h=>(by cases h),Nat.zero_le _⟩⟩
   ·cases hv
    by_cases hc0:cap=0
    ·subst hc0
     have hl0:len=0:=by omega
     subst hl0
     obtain⟨ab,A,el,fz,hA⟩:=hz ⟨a,rfl⟩
     obtain⟨k1,k2⟩:=hH.take (off:=0) hA row.length (c:=[]) (vs:=[]) .nil (fun j hj=>by simp at hj) (by simp)
     refine⟨_,_, .slice H.next 0 0,k1,k2, .alloc _ _, .slice0 (Nat.lt_succ_self _), ?_⟩
     simp only[cellN]
     exact⟨[],⟨Nat.zero_le _,fun _ h=>(by cases h), .inr ⟨H.next,0,[],rfl,Nat.zero_le _,by simp,alloc_new _ _,by simp,by simp⟩⟩,fun _ h=>(by cases h),Nat.zero_le _⟩
    ·obtain⟨hcl,hpos⟩:=Y0j hrow
     have hblk: ∃ab ao A el fz,a=⟨ab,ao,none⟩/\w.heap[ab]? =some (.cells A el fz):=by
      have key: ∀us,w.cells? base (a.add 0) (P.cellsOf e)=some us-> ∃ab ao A el fz,a=⟨ab,ao,none⟩/\w.heap[ab]? =some (.cells A el fz):=fun us hus=>by
       obtain⟨_,q1,q2⟩:=World.cells?_some hus
       have q3:=q2 0 (by omega)
       have q5:us[0]? =some (us[0]'(by omega)):=List.getElem?_eq_getElem _
       rw[q5]at q3
       have q4:(a.add 0).add 0=a:=by simp[Addr.add]
       rw[q4]at q3
       obtain⟨ab,ao,sp⟩:=a
       unfold World.cell? at q3
       split at q3
       ·rename_i A el fz hA
        split at q3
        ·cases q3
        ·rename_i hsn
         cases sp with
         |none=>exact⟨ab,ao,A,el,fz,rfl,hA⟩
         |some z=>simp at hsn
       ·cases q3
      by_cases hl0:len=0
      ·subst hl0
       have hr0:=(hsp rfl).1
       obtain⟨y,hy⟩: ∃y,rest[0]? =some y:=⟨rest[0]'(by omega),List.getElem?_eq_getElem _⟩
       have:=(hsp rfl).2 0 (by omega)
       rw[hy]at this
       obtain⟨us,hus,_⟩:=oB.1 this
       exact key us (by simpa using hus)
      ·obtain⟨y,hy⟩: ∃y,elems[0]? =some y:=⟨elems[0]'(by omega),List.getElem?_eq_getElem _⟩
       have:=hel 0 (by omega)
       rw[hy]at this
       obtain⟨us,hus,_⟩:=oB.1 this
       exact key us (by simpa using hus)
     obtain⟨ab,ao,A,el,fz,rfl,hA⟩:=hblk
     have hcell: ∀j,w.cell? ((⟨ab,ao,none⟩:Addr).add j)=A[ao+j]? :=fun j=>by
      unfold Addr.add
      split
      ·rename_i h0;subst h0;simp[World.cell?,hA]
      ·simp[World.cell?,hA]
     have all: ∀m',m'<=len-> ∃(Hm:Heap) (φm:Phi) (rows:List (List C)) (vs:List Value),HRel Hm.next φm Hm w/\(∀i p,φ i=some p->φm i=some p)/\Grow H Hm/\rows.length=m'/\(∀r∈rows,rowN Hm row r)/\CsRel Hm.next φm rows.flatten vs/\vs.length=m'*row.length/\ ∀k,k<vs.length->A[ao+k]? =vs[k]? :=by
      intro m'
      induction m' with
      |zero=>intro _;exact⟨H,φ,[],[],hH,fun _ _ h=>h, .refl _,rfl,fun _ h=>(by cases h), .nil,by simp,fun k hk=>by simp at hk⟩
      |succ m' ih=>
       intro hm'
       obtain⟨Hm,φm,rows,vs,g1,g2,g3,g4,g5,g6,g7,g8⟩:=ih (by omega)
       obtain⟨y,hy⟩: ∃y,elems[m']? =some y:=⟨elems[m']'(by omega),List.getElem?_eq_getElem _⟩
       have:=hel m' (by omega)
       rw[hy]at this
       obtain⟨us,hus,htr⟩:=oB.1 this
       obtain⟨_,k1,k2⟩:=World.cells?_some hus
       obtain⟨H2,φ2,r,b1,b2,b3,b4,b5⟩:=K1c (fun n t nt v x h1 h2 h3=>Q1V d n t nt v x h1 h2 h3) hrow k1 htr (fun v _ _=>⟨ab,A,el,fz,hA⟩) φm Hm g1
       have k3: ∀k,k<us.length->A[ao+(m'*row.length+k)]? =us[k]? :=fun k hk=>by
        rw[<-k2 k (by omega),hcl]
        rw[show((⟨ab,ao,none⟩:Addr).add (m'*row.length)).add k=(⟨ab,ao,none⟩:Addr).add (m'*row.length+k)from ?_]
        ·rw[hcell]
        ·unfold Addr.add
         by_cases e1:m'*row.length=0<;>by_cases e2:k=0<;>simp[e1,e2,Nat.add_assoc]
       refine⟨H2,φ2,rows++[r],vs++us,b1,fun i p hp=>b2 i p (g2 i p hp),g3.trans b3,by simp[g4],fun z hz=> ?_, ?_,by rw[List.length_append,g7,k1,hcl,Nat.add_mul,Nat.one_mul],fun k hk=> ?_⟩
       ·rcases mA.1 hz with hz |hz
        ·exact(g5 z hz).grow b3
        ·simp only[List.mem_singleton]at hz;subst hz;exact b5
       ·rw[List.flatten_append];simp only[List.flatten_cons,List.flatten_nil,List.append_nil]
        exact CsRel.append (CsRel.up b3.next (g6.mono b2)) b4
       ·by_cases hlt:k<vs.length
        ·rw[List.getElem?_append_left hlt];exact g8 k hlt
        ·rw[List.getElem?_append_right (by omega)]
         rw[List.length_append]at hk
         have:=k3 (k - vs.length) (by omega)
         rw[<-this,g7];congr 1;rw[<-g7];omega
     obtain⟨Hm,φm,rows,vs,g1,g2,g3,g4,g5,g6,g7,g8⟩:=all len (nR _)
     have hrl: ∀r∈rows,r.length=row.length:=fun r hr=>(g5 r hr).length
     have hfl:rows.flatten.length=len*row.length:=by rw[k0A hrl,g4]
     have hoff:ao+rows.flatten.length<=A.size:=by
      by_cases hl0:len=0
      ·subst hl0
       have hr0:=(hsp rfl).1
       obtain⟨y,hy⟩: ∃y,rest[0]? =some y:=⟨rest[0]'(by omega),List.getElem?_eq_getElem _⟩
       have:=(hsp rfl).2 0 (by omega)
       rw[hy]at this
       obtain⟨us,hus,htr⟩:=oB.1 this
       obtain⟨_,q1,q2⟩:=World.cells?_some hus
       have q3:=q2 0 (by omega)
       simp only[Nat.zero_add,Nat.zero_mul]at q3
       have q4:((⟨ab,ao,none⟩:Addr).add 0).add 0=(⟨ab,ao,none⟩:Addr).add 0:=by simp[Addr.add]
       rw[q4,hcell]at q3
       have q5:us[0]? =some (us[0]'(by omega)):=List.getElem?_eq_getElem _
       rw[q5]at q3
       have:=(Array.getElem?_eq_some_iff.1 q3).1
       rw[hfl];simp;omega
      ·have hpos':0<len*row.length:=Nat.mul_pos (by omega) hpos
       have q:=g8 (len*row.length - 1) (by omega)
       have q5:vs[len*row.length - 1]? =some (vs[len*row.length - 1]'(by omega)):=List.getElem?_eq_getElem _
       rw[q5]at q
       have:=(Array.getElem?_eq_some_iff.1 q).1
       rw[hfl];omega
     obtain⟨k1,k2⟩:=g1.take (off:=ao) hA row.length g6 g8 hoff
     refine⟨_,_, .slice Hm.next 0 len,k1,fun i p hp=>k2 i p (g2 i p hp),g3.to_alloc _, ?_, ?_⟩
     ·exact .slice (p:=⟨ab,ao,A.size,row.length⟩) (Phi.add_same _ _ _) hl (.inr rfl) (fun hi=>by simp only[alloc_next]at hi;omega)
     ·simp only[cellN]
      refine⟨rows,⟨Nat.zero_le _,hrl, .inr ⟨Hm.next,0,rows.flatten,by rw[g4],Nat.zero_le _,by simp,alloc_new _ _,by rw[hfl,g4];simp, ?_⟩⟩,fun r hr=>(g5 r hr).grow (.alloc _ _),by rw[g4];omega⟩
      rw[List.drop_zero,List.take_of_length_le (by rw[hfl,g4];exact nR _)]
  ·cases hn
inductive PN where
 |one (n:NT)
 |struct (ns:List NT)
def pnOf(P:Program)(d:Nat)(t:TypeId):Option PN:=match P.underlying t with
 |some (.struct fs)=>(P.cellTypes P.depth t).bind fun ts=>(fsN P (ntOf P d) 0 fs.toList).bind fun ns=>if P.cellsOf t=ns.length/\fs.toList.map (·.type)=ts then some (.struct ns)else none
 |some (.array _ _)=>none
 |_=>(ntOf P d t).map .one
def paramN(H:Heap):PN->V->Prop
 | .one n,v=> ∃c,v= .c c/\cellN H n c
 | .struct ns,v=> ∃cs,v= .agg cs/\rowN H ns cs
def paramsN(H:Heap):List PN->List V->Prop
 | [],vs=>vs=[]
 |d::ds,vs=> ∃v r,vs=v::r/\paramN H d v/\paramsN H ds r
theorem paramN.grow{H H':Heap}(g:Grow H H'): ∀{d:PN} {v:V},paramN H d v->paramN H' d v
 | .one _,_,⟨c,h1,h2⟩=>⟨c,h1,h2.grow g⟩
 | .struct _,_,⟨cs,h1,h2⟩=>⟨cs,h1,h2.grow g⟩
theorem j1j{one:TypeId->Option NT}: ∀{fs:List Field} {k:Nat} {ns:List NT},fsN P one k fs=some ns->fs.length=ns.length/\ ∀(i:Nat) f,fs[i]? =some f->f.offset=k+i/\P.cellsOf f.type=1/\ ∃s,one f.type=some s
 | [],k,ns,h=>by simp only[fsN]at h;cases h;exact⟨rfl,fun i f hf=>by simp at hf⟩
 |f::fs,k,ns,h=>by
  simp only[fsN]at h
  split at h
  ·rename_i ho
   obtain⟨s,hs,h⟩:=oB.1 h
   obtain⟨ss,hss,h⟩:=oB.1 h
   cases h
   obtain⟨h1,h2⟩:=j1j hss
   refine⟨by simp[h1],fun i g hg=> ?_⟩
   cases i with
   |zero=>simp only[List.getElem?_cons_zero,oI]at hg;subst hg;exact⟨ho.1,ho.2,s,hs⟩
   |succ i=>
    obtain⟨h3,h4⟩:=h2 i g (by simpa using hg)
    exact⟨by omega,h4⟩
  ·cases h
theorem Z0z{d n b0:Nat}{t:TypeId}{nt:NT}{v:Value}{x:DataW D×List MemPlace}(hn:ntOf P d t=some nt)(h:DataW.trod enc P w base (fun _=>true) held n t [v]=some x)(hok:Cell.okWide P w .any b0 t v)(h0:slice0V v):HasBlock w:=by
 obtain⟨a,rfl⟩:=h0
 cases d with
 |zero=>simp[ntOf]at hn
 |succ d=>
  simp only[ntOf]at hn
  split at hn
  ·rename_i k hu;obtain⟨m,e,_⟩:=DataW.trod_int hu h;cases e
  ·rename_i hu;obtain⟨m,e,_⟩:=DataW.trod_bool hu h;cases e
  ·rename_i hu;obtain⟨m,e,_⟩:=DataW.trod_string hu h;cases e
  ·rename_i e hu
   unfold Cell.okWide at hok
   rw[hu]at hok
   simp only[Cell.ok,hu]at hok
   obtain⟨_,hspot,row,cells,hshape,_⟩:=hok.2.2
   unfold World.shape? at hshape
   split at hshape
   ·rename_i c el fz hc;exact⟨_,c,el,fz,hc⟩
   ·cases hshape
  ·cases hn
theorem j1k{d b0:Nat}{t:TypeId}{pd:PN}{v:Value}{dd:DataW D}{ps:List MemPlace}(hd:pnOf P d t=some pd)(h:DataW.Trod enc P w base (fun _=>true) held t v dd ps)(hok:Value.okWide P w .any b0 t v){φ:Phi}{H:Heap}(hH:HRel H.next φ H w):
  ∃H' φ' x,HRel H'.next φ' H' w/\(∀i p,φ i=some p->φ' i=some p)/\Grow H H'/\VRel H'.next φ' x v/\paramN H' pd x:=by
 obtain⟨fuel,h⟩:=h
 unfold pnOf at hd
 split at hd
 ·rename_i fs hu
  obtain⟨ts,hts,hd⟩:=oB.1 hd
  obtain⟨ns,hns,hd⟩:=oB.1 hd
  split at hd
  ·rename_i hl
   cases hd
   unfold Value.okWide at hok
   simp only[hu]at hok
   obtain⟨cs,rfl,hsz,ts',hts',_,hrow⟩:=hok
   rw[hts]at hts';cases hts'
   obtain⟨xs,n,_,_,hlen,hxs,hf⟩:=DataW.trod_struct hu h
   obtain⟨hfl,hfs⟩:=j1j hns
   have hcl:cs.toList.length=ns.length:=by simp[hsz,hl.1]
   have htr: ∀(i:Nat) f,fs.toList[i]? =some f-> ∃x,DataW.trod enc P w base (fun _=>true) held n f.type ((cs.toList.drop f.offset).take (P.cellsOf f.type))=some x:=fun i f hfi=>by
    have hfi':fs[i]? =some f:=by rw[<-Array.getElem?_toList];exact hfi
    have hlt:i<xs.length:=by rw[hxs];exact(Array.getElem?_eq_some_iff.1 hfi').1
    exact⟨xs[i],by have:=hf i f hfi';simpa only[Value.cells,List.getElem?_eq_getElem hlt]using this⟩
   obtain⟨H',φ',row,h1,h2,h3,h4,h5⟩:=w0V (n:=n) (base:=base) (held:=held) (enc:=enc) (fun t nt v x=>Q1V d n t nt v x) fs.toList 0 ns cs.toList hns (by omega) htr (fun v hv h0=>by
    obtain⟨i,hi⟩:=List.getElem?_of_mem hv
    have hilt:=(gE.1 hi).1
    have hfi:fs.toList[i]? =some (fs.toList[i]'(by omega)):=List.getElem?_eq_getElem _
    obtain⟨ho,hc1,s,hs⟩:=hfs i _ hfi
    obtain⟨x,hx⟩:=htr i _ hfi
    rw[hc1,ho,Nat.zero_add]at hx
    have he:(cs.toList.drop i).take 1=[v]:=by
     rw[List.drop_eq_getElem_cons hilt]
     have:=(gE.1 hi).2
     simp[this]
    rw[he]at hx
    obtain⟨u,hu1,hu2⟩:=hrow i v (by rw[<-Array.getElem?_toList];exact hi)
    have htl:ts.length=ns.length:=by rw[<-hl.2,List.length_map,hfl]
    rw[Nat.mod_eq_of_lt (by omega),<-hl.2,List.getElem?_map,hfi]at hu1
    cases hu1
    exact Z0z hs hx hu2 h0) φ H hH
   exact⟨H',φ', .agg row,h1,h2,h3, .agg (by simpa using h4),row,rfl,h5⟩
  ·cases hd
 ·cases hd
 ·rename_i hns hna
  obtain⟨k,hk,rfl⟩:=oM.1 hd
  have hokc:Cell.okWide P w .any b0 t v:=by
   unfold Value.okWide at hok
   split at hok
   ·rename_i fs hu;exact absurd hu (hns fs)
   ·rename_i n e hu;exact absurd hu (hna n e)
   ·exact hok
  have hv:v.cells.toList=[v]:=by
   have hk':=hk
   cases d with
   |zero=>simp[ntOf]at hk
   |succ d=>
    simp only[ntOf]at hk
    have agg: ∀arr,v= .agg arr->False:=fun arr e=>by
     subst e
     unfold Cell.okWide at hokc
     split at hk<;>rename_i hu<;>first |(cases hk;done) |(rw[hu]at hokc;simp only[Cell.ok,hu]at hokc)
    have one: ∃v',v.cells.toList=[v']:=by
     split at hk<;>rename_i hu
     ·obtain⟨m,e,_⟩:=DataW.trod_int hu h;exact⟨_,e⟩
     ·obtain⟨m,e,_⟩:=DataW.trod_bool hu h;exact⟨_,e⟩
     ·obtain⟨m,e,_⟩:=DataW.trod_string hu h;exact⟨_,e⟩
     ·rcases DataW.trod_slice hu h with⟨e,_⟩ |⟨a,len,cap,elems,rest,n,_,e,_⟩<;>exact⟨_,e⟩
     ·cases hk
    cases v<;>first |rfl |(exact(agg _ rfl).elim) |(obtain⟨v',e⟩:=one;simp[Value.cells]at e)
  rw[hv]at h
  obtain⟨H',φ',c,h1,h2,h3,h4,h5⟩:=Q1V d _ t k v _ hk h (fun h0=>Z0z hk h hokc h0) φ H hH
  exact⟨H',φ', .c c,h1,h2,h3, .c h4,c,rfl,h5⟩
theorem params_inN{d b0:Nat}: ∀(ts:List TypeId) (vs:List Value) (dd:List (DataW D)) (ps:List MemPlace) (ds:List PN),(∀(i:Nat) t,ts[i]? =some t->pnOf P d t=ds[i]?)->ds.length=ts.length->DataW.TrodAll enc P w base (fun _=>true) held ts vs dd ps->
  (∀(j:Nat) t v,ts[j]? =some t->vs[j]? =some v->Value.okWide P w .any b0 t v)-> ∀{φ:Phi} {H:Heap},HRel H.next φ H w->
  ∃H' φ' xs,HRel H'.next φ' H' w/\(∀i p,φ i=some p->φ' i=some p)/\Grow H H'/\VsRel H'.next φ' xs vs/\paramsN H' ds xs
 | [],vs,dd,ps,ds,hd,hl,h,hok,φ,H,hH=>by
  obtain⟨rfl,rfl,rfl⟩:=ChangeShapes.trodAll_nil h
  have:=List.eq_nil_of_length_eq_zero hl;subst this
  exact⟨H,φ,[],hH,fun _ _ h=>h, .refl _, .nil,rfl⟩
 |t::ts,vs,dd,ps,ds,hd,hl,h,hok,φ,H,hH=>by
  obtain⟨v,vs',d,dd',p,q,rfl,rfl,rfl,h1,h2⟩:=ChangeShapes.trodAll_cons h
  cases ds with
  |nil=>simp at hl
  |cons e ds=>
   obtain⟨H1,φ1,x,a1,a2,a3,a4,a5⟩:=j1k (pd:=e) (hd 0 t rfl) h1 (hok 0 t v rfl rfl) hH
   obtain⟨H2,φ2,xs,b1,b2,b3,b4,b5⟩:=params_inN ts vs' dd' q ds (fun i t ht=>hd (i+1) t (by simpa using ht)) (by simpa using hl) h2 (fun j t v ht hv=>hok (j+1) t v (by simpa using ht) (by simpa using hv)) a1
   exact⟨H2,φ2,x::xs,b1,fun i p hp=>b2 i p (a2 i p hp),a3.trans b3, .cons ((a4.mono b2).up b3.next) b4,⟨x,xs,rfl,a5.grow b3,b5⟩⟩
end
abbrev G:=Nat->T
def X.sub(g:G):X->X
 | .t p=>match g p with
  | .val v=> .c v
  |_=> .t p
 |x=>x
def subO(g:G):Option X->Option X
 |some x=>some (x.sub g)
 |none=>none
def subP(g:G):List (Nat×Nat×X)->List (Nat×Nat×X)
 | []=>[]
 |(o,n,x)::r=>(o,n,x.sub g)::subP g r
def subL(g:G):List X->List X
 | []=>[]
 |x::r=>x.sub g::subL g r
def ROp.sub1(g:G):ROp->ROp
 | .mov x=> .mov (x.sub g)
 | .box n x=> .box n (x.sub g)
 | .new z=> .new z
 | .build z ps=> .build z (subP g ps)
 | .lit a b z ps=> .lit a b z (subP g ps)
 | .ld kd a=> .ld kd (a.sub g)
 | .lds kds a=> .lds kds (a.sub g)
 | .ldN n a=> .ldN n (a.sub g)
 | .ldL q kd a=> .ldL q kd (a.sub g)
 | .ldsL q kds a=> .ldsL q kds (a.sub g)
 | .nilck x=> .nilck (x.sub g)
 | .ar op k x y=> .ar op k (x.sub g) (y.sub g)
 | .cmp op k x y=> .cmp op k (x.sub g) (y.sub g)
 | .dv op k x y=> .dv op k (x.sub g) (y.sub g)
 | .bit op k x y=> .bit op k (x.sub g) (y.sub g)
 | .sh op k j x y=> .sh op k j (x.sub g) (y.sub g)
 | .eqB ne x y=> .eqB ne (x.sub g) (y.sub g)
 | .eqA ne ks x y=> .eqA ne ks (x.sub g) (y.sub g)
 | .cmpS op x y=> .cmpS op (x.sub g) (y.sub g)
 | .catS x y=> .catS (x.sub g) (y.sub g)
 | .eqN nk ne x=> .eqN nk ne (x.sub g)
 | .not x=> .not (x.sub g)
 | .neg k x=> .neg k (x.sub g)
 | .conv j k x=> .conv j k (x.sub g)
 | .fld o a=> .fld o (a.sub g)
 | .fldC o x=> .fldC o (x.sub g)
 | .fldA o n x=> .fldA o n (x.sub g)
 | .idx sz x i=> .idx sz (x.sub g) (i.sub g)
 | .idxA n sz a i=> .idxA n sz (a.sub g) (i.sub g)
 | .idxS x i=> .idxS (x.sub g) (i.sub g)
 | .idxVC n kd x i=> .idxVC n kd (x.sub g) (i.sub g)
 | .idxVA n sz x i=> .idxVA n sz (x.sub g) (i.sub g)
 | .sub sz x lo hi=> .sub sz (x.sub g) (subO g lo) (subO g hi)
 | .subS x lo hi=> .subS (x.sub g) (subO g lo) (subO g hi)
 | .len x=> .len (x.sub g)
 | .lenS x=> .lenS (x.sub g)
 | .lenM x=> .lenM (x.sub g)
 | .app sz s x=> .app sz (s.sub g) (x.sub g)
 | .copy sz d s=> .copy sz (d.sub g) (s.sub g)
 | .clr z x=> .clr z (x.sub g)
 | .mkS sz z n=> .mkS sz z (n.sub g)
 | .mkF f cap=> .mkF f (subL g cap)
 | .mkM=> .mkM
 | .look kk z ok kd m k=> .look kk z ok kd (m.sub g) (k.sub g)
 | .mset kk m k v=> .mset kk (m.sub g) (k.sub g) (v.sub g)
 | .mdel kk m k=> .mdel kk (m.sub g) (k.sub g)
 | .call f kd args=> .call f kd (subL g args)
 | .callV x kd args=> .callV (x.sub g) kd (subL g args)
 | .ext kd x i=> .ext kd (x.sub g) i
 | .mkI t x=> .mkI t (x.sub g)
 | .mm mx k x y=> .mm mx k (x.sub g) (y.sub g)
 | .stH n a x=> .stH n (a.sub g) (x.sub g)
 | .chkd o d p ag ks=> .chkd o d p ag ks
 | .subM sz x lo hi mx=> .subM sz (x.sub g) (subO g lo) (subO g hi) (subO g mx)
 | .capN x=> .capN (x.sub g)
 | .appZ sz z s n=> .appZ sz z (s.sub g) (n.sub g)
def locAt(g:G):X->Option (Nat×Nat)
 | .t p=>match g p with
  | .loc _=>some (p,0)
  | .laddr q o=>some (q,o)
  |_=>none
 |_=>none
def cellsG(g:G)(q:Nat):Option (List C):=match g q with
 | .loc cs=>some cs
 |_=>none
section
variable{R:Type}(lim:Nat)(call:CallT)
def seenG(g:G)(H:Heap)(d p:Nat)(ag:Bool)(ks:List K0):Bool:=
 match g d with
 | .val u=>match g p with
  | .val v=>match(v.asP.bind fun a=>if ag=true then H.lds a.1 a.2 ks fun cs=>some (.agg cs)else(H.ld a.1 a.2).bind fun x=>(ks.headD .c).take x fun y=>some (V.c y))with
   |some w=>eqV w u
   |none=>false
  |_=>false
 |_=>false
def xop(g:G)(H:Heap):ROp->(T->Heap->Option R)->Option R
 | .fld o a,K=>match locAt g a with
  |some q=>K (.laddr q.1 (q.2+o)) H
  |none=>evalOp lim call [] H (.fld o (a.sub g)) K
 | .idxA n sz a i,K=>match locAt g a with
  |some q=>(evC [] (i.sub g)).bind fun i=>i.asIx.bind fun m=>if 0<=m/\m<n then K (.laddr q.1 (q.2+m.toNat*sz)) H else none
  |none=>evalOp lim call [] H (.idxA n sz (a.sub g) (i.sub g)) K
 | .ldN n a,K=>match locAt g a with
  |some q=>(cellsG g q.1).bind fun cs=>if q.2+n<=cs.length then K (.val (.agg ((cs.drop q.2).take n))) H else none
  |none=>evalOp lim call [] H (.ldN n (a.sub g)) K
 | .ldL r kd a,K=>(locAt g a).bind fun q=>if q.1=r then(cellsG g q.1).bind fun cs=>(cs[q.2]?).bind fun x=>kd.take x fun y=>K (.val (.c y)) H else none
 | .ldsL r kds a,K=>(locAt g a).bind fun q=>if q.1=r then(cellsG g q.1).bind fun cs=>if q.2+kds.length<=cs.length then K (.val (.agg ((cs.drop q.2).take kds.length))) H else none else none
 | .chkd o d p ag ks,K=>xop g H o fun t H'=>if seenG g H' d p ag ks=true then K t H' else none
 |o,K=>evalOp lim call [] H (o.sub1 g) K
end
theorem K0k(p:Nat):Env.get [] p= .poison:=by simp[Env.get]
theorem Z0A(e:Env)(x:X):ev [] (x.sub e.get)=ev e x:=by
 cases x with
 |t p=>simp only[X.sub];cases h:e.get p<;>simp[ev,h,K0k]
 |c v=>rfl
 |f g=>rfl
theorem z0B(e:Env)(x:X):evC [] (x.sub e.get)=evC e x:=by simp only[evC,Z0A]
theorem Q1W(e:Env)(k:IntKind)(x:X):evI k [] (x.sub e.get)=evI k e x:=by simp only[evI,z0B]
theorem Q1X(e:Env)(x:X):evB [] (x.sub e.get)=evB e x:=by simp only[evB,z0B]
theorem j1l(e:Env): ∀xs:List X,evs [] (subL e.get xs)=evs e xs
 | []=>rfl
 |x::xs=>by simp only[subL,evs,Z0A,j1l e xs]
theorem X0n(e:Env): ∀xs:List X,evCs [] (subL e.get xs)=evCs e xs
 | []=>rfl
 |x::xs=>by simp only[subL,evCs,z0B,X0n e xs]
theorem X0o(e:Env): ∀(ps:List (Nat×Nat×X)) (z:List C),fillC [] z (subP e.get ps)=fillC e z ps
 | [],z=>rfl
 |(o,n,x)::ps,z=>by simp only[subP,fillC,Z0A,X0o e ps]
theorem w1A(e:Env)(x:Option X):evLo [] (subO e.get x)=evLo e x:=by cases x<;>simp only[subO,evLo,z0B]
theorem w1B(e:Env)(x:Option X):evHi [] (subO e.get x)=evHi e x:=by cases x<;>simp only[subO,evHi,z0B]
theorem j0U{R:Type}(e:Env)(x:X)(Kl Ko:Nat->Nat->Option R)(h:locAt e.get x=none):placeK [] (x.sub e.get) Kl Ko=placeK e x Kl Ko:=by
 cases x with
 |t p=>
  simp only[locAt]at h
  simp only[X.sub]
  cases hp:e.get p<;>rw[hp]at h<;>first |(cases h;done) |simp[placeK,hp,K0k]
 |c v=>rfl
 |f g=>rfl
theorem Y0k{R:Type}(e:Env)(x:X)(Ko:Nat->Nat->Option R):placeK [] (x.sub e.get) (fun _ _=>none) Ko=placeK e x (fun _ _=>none) Ko:=by
 cases h:locAt e.get x with
 |none=>exact j0U e x _ _ h
 |some q=>
  cases x with
  |t p=>
   simp only[locAt]at h
   simp only[X.sub]
   cases hp:e.get p<;>rw[hp]at h<;>first |(cases h;done) |simp[placeK,hp,K0k]
  |c v=>cases h
  |f g=>cases h
theorem j0u{R:Type}{e:Env}{x:X}{q:Nat×Nat}(h:locAt e.get x=some q)(Kl Ko:Nat->Nat->Option R):placeK e x Kl Ko=Kl q.1 q.2:=by
 cases x with
 |t p=>
  simp only[locAt]at h
  cases hp:e.get p<;>rw[hp]at h<;>simp at h<;>subst h<;>simp[placeK,hp]
 |c v=>cases h
 |f g=>cases h
theorem j1m{R:Type}{e:Env}{x:X}(h:locAt e.get x=none)(Kl:Nat->Nat->Option R):placeK e x Kl (fun _ _=>none)=none:=by
 cases x with
 |t p=>
  simp only[locAt]at h
  cases hp:e.get p<;>rw[hp]at h<;>simp at h<;>simp[placeK,hp]
 |c v=>simp[placeK]
 |f g=>rfl
theorem j0V(e:Env)(q:Nat):cellsG e.get q=locCells e q:=by
 simp only[cellsG,locCells]
 cases e.get q<;>rfl
theorem X0p(e:Env)(H:Heap)(d p:Nat)(ag:Bool)(ks:List K0):seenG e.get H d p ag ks=seen e H d p ag ks:=by
 simp only[seenG,seen,Heap.rd]
 cases e.get d with
 |val u=>
  cases e.get p with
  |val v=>rfl
  |_=>rfl
 |_=>rfl
theorem j1n{R:Type}(lim:Nat)(call:CallT)(e:Env)(H:Heap): ∀(o:ROp) (K:T->Heap->Option R),xop lim call e.get H o K=evalOp lim call e H o K:=by
 intro o
 induction o with
 |fld o a=>
  intro K
  simp only[xop]
  cases h:locAt e.get a with
  |some q=>simp only[evalOp,j0u h]
  |none=>simp only[evalOp,j0U e a _ _ h]
 |idxA n sz a i=>
  intro K
  simp only[xop]
  cases h:locAt e.get a with
  |some q=>simp only[evalOp,z0B,j0u h]
  |none=>simp only[evalOp,z0B,j0U e a _ _ h]
 |ldN n a=>
  intro K
  simp only[xop]
  cases h:locAt e.get a with
  |some q=>simp only[evalOp,j0u h,j0V]
  |none=>simp only[evalOp,j0U e a _ _ h];cases a<;>simp[placeK,X.sub,locCells]<;>(rename_i p;simp only[locAt]at h;cases hp:e.get p<;>rw[hp]at h<;>simp at h<;>simp)
 |ldL r kd a=>
  intro K
  simp only[xop]
  cases h:locAt e.get a with
  |some q=>simp only[oS,evalOp,j0u h,j0V]
  |none=>simp only[Option.bind_none,evalOp,j1m h]
 |ldsL r kds a=>
  intro K
  simp only[xop]
  cases h:locAt e.get a with
  |some q=>simp only[oS,evalOp,j0u h,j0V]
  |none=>simp only[Option.bind_none,evalOp,j1m h]
 |chkd o d p ag ks ih=>
  intro K
  simp only[xop,evalOp,ih,X0p]
 |_=>
  intro K
  simp only[xop,ROp.sub1,evalOp,Z0A,z0B,Q1W,Q1X,j1l,X0n,X0o,w1A,w1B,Y0k]
def gev(g:G):X->Option V
 | .t p=>match g p with
  | .val v=>some v
  |_=>none
 | .c v=>some v
 | .f h=>some (.c (.func h [] []))
theorem j0W(e:Env)(x:X):gev e.get x=ev e x:=by
 cases x with
 |t p=>simp only[gev,ev];cases e.get p<;>rfl
 |c v=>rfl
 |f h=>rfl
def gC(g:G)(x:X):Option C:=(gev g x).bind V.asC
def gI(k:IntKind)(g:G)(x:X):Option Int:=(gC g x).bind (C.asI k)
def gB(g:G)(x:X):Option Bool:=(gC g x).bind C.asB
theorem Z0B(e:Env)(x:X):gC e.get x=evC e x:=by simp only[gC,evC,j0W]
theorem K0l(e:Env)(k:IntKind)(x:X):gI k e.get x=evI k e x:=by simp only[gI,evI,Z0B]
theorem j1o(e:Env)(x:X):gB e.get x=evB e x:=by simp only[gB,evB,Z0B]
def gevs(g:G):List X->Option (List V)
 | []=>some []
 |x::xs=>(gev g x).bind fun v=>(gevs g xs).bind fun vs=>some (v::vs)
theorem K0m(e:Env): ∀xs:List X,gevs e.get xs=evs e xs
 | []=>rfl
 |x::xs=>by simp only[gevs,evs,j0W,K0m e xs]
def gfill(g:G):List (Nat×Nat×X)->List C->Option (List C)
 | [],z=>some z
 |(o,n,x)::ps,z=>(gev g x).bind fun v=>v.cells.bind fun xs=>if xs.length=n/\o+n<=z.length then gfill g ps (splice z o xs)else none
theorem J0A(e:Env): ∀(ps:List (Nat×Nat×X)) (z:List C),gfill e.get ps z=fillC e z ps
 | [],z=>rfl
 |(o,n,x)::ps,z=>by simp only[gfill,fillC,j0W,J0A e ps]
def gobj(g:G)(x:X):Option (Nat×Nat):=(gev g x).bind V.asP
theorem J0B{R:Type}(e:Env)(x:X)(Ko:Nat->Nat->Option R):placeK e x (fun _ _=>none) Ko=(gobj e.get x).bind fun a=>Ko a.1 a.2:=by
 simp only[gobj,j0W]
 cases x with
 |t p=>simp only[placeK,ev];cases e.get p<;>simp
 |c v=>simp only[placeK,ev,oS]
 |f h=>simp[placeK,ev,V.asP,V.asC]
def forceC{R:Type}(x:C)(K:C->R):R:=match x with
 | .int k n=>K (.int k n)
 | .slice i o n=>K (.slice i o n)
 | .ptr i o=>K (.ptr i o)
 | .bool b=>K (.bool b)
 | .nilSlice=>K .nilSlice
 |x=>K x
theorem j1p{R:Type}(x:C)(K:C->R):forceC x K=K x:=by cases x<;>rfl
noncomputable def forceL{R:Type}(l:List C):(List C->R)->R:=List.rec (motive:=fun _=>(List C->R)->R) (fun K=>K []) (fun x _ ih K=>forceC x fun y=>ih fun ys=>K (y::ys)) l
theorem j0B{R:Type}: ∀(l:List C) (K:List C->R),forceL l K=K l
 | [],K=>rfl
 |x::l,K=>by show forceC x (fun y=>forceL l fun ys=>K (y::ys))=_;rw[j1p,j0B l]
noncomputable def appF{R:Type}(lim:Nat)(H:Heap)(sz:Nat)(s:C)(xs:List C)(n:Nat)(K:C->Heap->Option R):Option R:=
 match s with
 | .nilSlice=>if n=0 then K .nilSlice H else if roomy n then forceL xs fun ys=>K (.slice H.next 0 n) (H.alloc (.cells sz ys))else none
 | .slice i o m=>match H.get i with
  |some (.cells sz' c)=>if lim<=i/\sz'=sz/\o+m*sz<=c.length/\roomy (m+n)then forceL ((c.drop o).take (m*sz)++xs) fun ys=>K (.slice H.next 0 (m+n)) ((H.kill i).alloc (.cells sz ys))else none
  |_=>none
 |_=>none
theorem Q1Y{R:Type}(lim:Nat)(H:Heap)(sz:Nat)(s:C)(xs:List C)(n:Nat)(K:C->Heap->Option R):appF lim H sz s xs n K=(H.app lim sz s xs n).bind fun q=>K q.1 q.2:=by
 unfold appF Heap.app
 cases s with
 |nilSlice=>simp only[j0B];split<;>first |rfl |(split<;>rfl)
 |slice i o m=>
  simp only[j0B]
  cases H.get i with
  |none=>rfl
  |some ob=>cases ob with
   |cells sz' c=>simp only;split<;>rfl
   |map es=>rfl
 |_=>rfl
noncomputable def stF{R:Type}(lim:Nat)(H:Heap)(i o:Nat)(xs:List C)(K:Heap->Option R):Option R:=
 match H.get i with
 |some (.cells sz c)=>if lim<=i/\o+xs.length<=c.length then forceL (splice c o xs) fun ys=>K (H.put i (.cells sz ys))else none
 |_=>none
theorem w1C{R:Type}(lim:Nat)(H:Heap)(i o:Nat)(xs:List C)(K:Heap->Option R):stF lim H i o xs K=(H.st lim i o xs).bind K:=by
 unfold stF Heap.st
 simp only[j0B]
 cases H.get i with
 |none=>rfl
 |some ob=>cases ob with
  |cells sz' c=>simp only;split<;>rfl
  |map es=>rfl
abbrev XS(R:Type):=Nat->CallT->G->Heap->(T->Heap->Option R)->Option R
section
variable{R:Type}
def m0(o:ROp):XS R:=fun lim call g H K=>xop lim call g H o K
def mMov(x:X):XS R:=fun _ _ g H K=>(gev g x).bind fun v=>K (.val v) H
noncomputable def mBox(sz:Nat)(x:X):XS R:=fun _ _ g H K=>(gev g x).bind fun v=>v.cells.bind fun xs=>if xs.length=sz then forceL xs fun ys=>K (.val (.c (.ptr H.next 0))) (H.alloc (.cells sz ys))else none
def mBuild(z:List C)(ps:List (Nat×Nat×X)):XS R:=fun _ _ g H K=>(gfill g ps z).bind fun cs=>K (.val (.agg cs)) H
noncomputable def mLit(sz len:Nat)(z:List C)(ps:List (Nat×Nat×X)):XS R:=fun _ _ g H K=>(gfill g ps z).bind fun cs=>forceL cs fun ys=>K (.val (.c (.slice H.next 0 len))) (H.alloc (.cells sz ys))
def mLd(kd:K0)(a:X):XS R:=fun _ _ g H K=>(gobj g a).bind fun q=>(H.ld q.1 q.2).bind fun x=>kd.take x fun y=>K (.val (.c y)) H
def mLds(kds:List K0)(a:X):XS R:=fun _ _ g H K=>(gobj g a).bind fun q=>H.lds q.1 q.2 kds fun cs=>K (.val (.agg cs)) H
def mLdL(r:Nat)(kd:K0)(a:X):XS R:=fun _ _ g H K=>(locAt g a).bind fun q=>if q.1=r then(cellsG g q.1).bind fun cs=>(cs[q.2]?).bind fun x=>kd.take x fun y=>K (.val (.c y)) H else none
def mLdsL(r:Nat)(kds:List K0)(a:X):XS R:=fun _ _ g H K=>(locAt g a).bind fun q=>if q.1=r then(cellsG g q.1).bind fun cs=>if q.2+kds.length<=cs.length then K (.val (.agg ((cs.drop q.2).take kds.length))) H else none else none
def mAr(op:BinOp)(k:IntKind)(x y:X):XS R:=fun _ _ g H K=>(gI k g x).bind fun a=>(gI k g y).bind fun b=>K (.val (.c (.int k (arith op k a b)))) H
def mCmp(op:BinOp)(k:IntKind)(x y:X):XS R:=fun _ _ g H K=>(gI k g x).bind fun a=>(gI k g y).bind fun b=>K (.val (.c (.bool (cmpI op a b)))) H
def mDv(op:BinOp)(k:IntKind)(x y:X):XS R:=fun _ _ g H K=>(gI k g x).bind fun a=>(gI k g y).bind fun b=>if b=0 then none else K (.val (.c (.int k (divI op k a b)))) H
def mBit(op:BinOp)(k:IntKind)(x y:X):XS R:=fun _ _ g H K=>(gI k g x).bind fun a=>(gI k g y).bind fun b=>K (.val (.c (.int k (bitI op k a b)))) H
def mSh(op:BinOp)(k j:IntKind)(x y:X):XS R:=fun _ _ g H K=>(gI k g x).bind fun a=>(gI j g y).bind fun b=>if b<0 then none else K (.val (.c (.int k (shI op k a b)))) H
def mEqB(ne:Bool)(x y:X):XS R:=fun _ _ g H K=>(gB g x).bind fun a=>(gB g y).bind fun b=>K (.val (.c (.bool ((a==b)!=ne)))) H
def mEqN(nk:NK)(ne:Bool)(x:X):XS R:=fun _ _ g H K=>(gC g x).bind fun x=>(isNil nk x).bind fun b=>K (.val (.c (.bool (b !=ne)))) H
def mNot(x:X):XS R:=fun _ _ g H K=>(gB g x).bind fun b=>K (.val (.c (.bool (!b)))) H
def mConv(j k:IntKind)(x:X):XS R:=fun _ _ g H K=>(gI j g x).bind fun a=>K (.val (.c (.int k (k.wrap a)))) H
def mFld(o:Nat)(a:X):XS R:=fun _ _ g H K=>match locAt g a with
 |some q=>K (.laddr q.1 (q.2+o)) H
 |none=>(gobj g a).bind fun q=>K (.val (.c (.ptr q.1 (q.2+o)))) H
def mFldC(o:Nat)(x:X):XS R:=fun _ _ g H K=>(gev g x).bind fun v=>(v.cell o).bind fun x=>K (.val (.c x)) H
def mFldA(o n:Nat)(x:X):XS R:=fun _ _ g H K=>(gev g x).bind fun v=>(v.part o n).bind fun xs=>K (.val (.agg xs)) H
def mIdx(sz:Nat)(x i:X):XS R:=fun _ _ g H K=>(gC g x).bind fun s=>(gC g i).bind fun i=>i.asIx.bind fun n=>(s.elem sz n).bind fun q=>K (.val (.c (.ptr q.1 q.2))) H
def mSub(sz:Nat)(x:X)(lo hi:Option X):XS R:=fun lim _ g H K=>(gC g x).bind fun s=>(evLo [] (subO g lo)).bind fun l=>(evHi [] (subO g hi)).bind fun h=>(H.sub lim sz s l h).bind fun r=>K (.val (.c r)) H
def mLen(x:X):XS R:=fun _ _ g H K=>(gC g x).bind fun s=>s.len.bind fun n=>K (.val (.c (.int .i64 n))) H
noncomputable def mApp(sz:Nat)(s x:X):XS R:=fun lim _ g H K=>(gC g s).bind fun s=>(gC g x).bind fun x=>(H.cellsOf sz x).bind fun xs=>x.len.bind fun n=>appF lim H sz s xs n fun r H'=>K (.val (.c r)) H'
noncomputable def mMkS(sz:Nat)(z:List C)(n:X):XS R:=fun _ _ g H K=>(gI .i64 g n).bind fun n=>if 0<=n/\n<=2 ^ 36 then forceL ((List.replicate n.toNat z).flatten) fun ys=>K (.val (.c (.slice H.next 0 n.toNat))) (H.alloc (.cells sz ys))else none
def mCall(f:FuncId)(kd:KD)(args:List X):XS R:=fun _ call g H K=>(gevs g args).bind fun vs=>(call f vs H).bind fun q=>kd.take q.1 fun v=>K (.val v) q.2
def mCallV(x:X)(kd:KD)(args:List X):XS R:=fun _ call g H K=>(gC g x).bind fun c=>c.asF.bind fun q=>(gevs g args).bind fun vs=>(call q.1 (q.2.1.map .c++vs++q.2.2.map .c) H).bind fun q=>kd.take q.1 fun v=>K (.val v) q.2
def mExt(kd:KD)(x:X)(i:Nat):XS R:=fun _ _ g H K=>(gev g x).bind fun v=>(v.ext i).bind fun v=>kd.take v fun u=>K (.val u) H
noncomputable def mStH(n:Nat)(a x:X):XS R:=fun lim _ g H K=>(gev g x).bind fun v=>v.cells.bind fun xs=>if xs.length≠n then none else(gobj g a).bind fun q=>stF lim H q.1 q.2 xs fun H'=>K .poison H'
def mChkd(d p:Nat)(ag:Bool)(ks:List K0)(ih:XS R):XS R:=fun lim call g H K=>ih lim call g H fun t H'=>if seenG g H' d p ag ks=true then K t H' else none
noncomputable def yop(o:ROp):XS R:=
 ROp.rec (motive:=fun _=>XS R) mMov mBox (fun z=>m0 (.new z)) mBuild mLit mLd mLds (fun n a=>m0 (.ldN n a)) mLdL mLdsL (fun x=>m0 (.nilck x)) mAr mCmp mDv mBit mSh mEqB (fun a b c d=>m0 (.eqA a b c d)) (fun a b c=>m0 (.cmpS a b c)) (fun a b=>m0 (.catS a b))
  mEqN mNot (fun a b=>m0 (.neg a b)) mConv mFld mFldC mFldA mIdx (fun a b c d=>m0 (.idxA a b c d)) (fun a b=>m0 (.idxS a b)) (fun a b c d=>m0 (.idxVC a b c d)) (fun a b c d=>m0 (.idxVA a b c d)) mSub (fun a b c=>m0 (.subS a b c)) mLen (fun a=>m0 (.lenS a)) (fun a=>m0 (.lenM a))
  mApp (fun a b c=>m0 (.copy a b c)) (fun a b=>m0 (.clr a b)) mMkS (fun a b=>m0 (.mkF a b)) (m0 .mkM) (fun a b c d e f=>m0 (.look a b c d e f)) (fun a b c d=>m0 (.mset a b c d)) (fun a b c=>m0 (.mdel a b c)) mCall mCallV mExt (fun a b=>m0 (.mkI a b)) (fun a b c d=>m0 (.mm a b c d)) mStH
  (fun _ d p ag ks ih=>mChkd d p ag ks ih) (fun a b c d e=>m0 (.subM a b c d e)) (fun a=>m0 (.capN a)) (fun a b c d=>m0 (.appZ a b c d)) o
theorem K1d(lim:Nat)(call:CallT)(e:Env)(H:Heap): ∀(o:ROp) (K:T->Heap->Option R),yop o lim call e.get H K=evalOp lim call e H o K:=by
 intro o
 induction o with
 |fld o a=>
  intro K
  show mFld o a lim call e.get H K=_
  simp only[mFld]
  cases h:locAt e.get a with
  |some q=>simp only[evalOp,j0u h]
  |none=>
   simp only[evalOp]
   rw[<-J0B e a (fun i q=>K (.val (.c (.ptr i (q+o)))) H)]
   cases a with
   |t p=>simp only[locAt]at h;simp only[placeK];cases hp:e.get p<;>rw[hp]at h<;>first |(cases h;done) |rfl
   |c v=>rfl
   |f h=>rfl
 |chkd o d p ag ks ih=>
  intro K
  show mChkd d p ag ks (yop o) lim call e.get H K=_
  simp only[mChkd,evalOp,ih,X0p]
 |ldL r kd a=>
  intro K
  have:=j1n lim call e H (.ldL r kd a) K
  simp only[xop]at this
  exact this
 |ldsL r kds a=>
  intro K
  have:=j1n lim call e H (.ldsL r kds a) K
  simp only[xop]at this
  exact this
 |ld kd a=>intro K;show mLd kd a lim call e.get H K=_;simp only[mLd,evalOp,J0B]
 |lds kd a=>intro K;show mLds kd a lim call e.get H K=_;simp only[mLds,evalOp,J0B]
 |stH n a x=>intro K;show mStH n a x lim call e.get H K=_;simp only[mStH,evalOp,J0B,j0W,w1C]
 |mov x=>intro K;show mMov x lim call e.get H K=_;simp only[mMov,evalOp,j0W]
 |box sz x=>intro K;show mBox sz x lim call e.get H K=_;simp only[mBox,evalOp,j0W,j0B]
 |build z ps=>intro K;show mBuild z ps lim call e.get H K=_;simp only[mBuild,evalOp,J0A]
 |lit a b z ps=>intro K;show mLit a b z ps lim call e.get H K=_;simp only[mLit,evalOp,J0A,j0B]
 |ar op k x y=>intro K;show mAr op k x y lim call e.get H K=_;simp only[mAr,evalOp,K0l]
 |cmp op k x y=>intro K;show mCmp op k x y lim call e.get H K=_;simp only[mCmp,evalOp,K0l]
 |dv op k x y=>intro K;show mDv op k x y lim call e.get H K=_;simp only[mDv,evalOp,K0l]
 |bit op k x y=>intro K;show mBit op k x y lim call e.get H K=_;simp only[mBit,evalOp,K0l]
 |sh op k j x y=>intro K;show mSh op k j x y lim call e.get H K=_;simp only[mSh,evalOp,K0l]
 |eqB ne x y=>intro K;show mEqB ne x y lim call e.get H K=_;simp only[mEqB,evalOp,j1o]
 |eqN nk ne x=>intro K;show mEqN nk ne x lim call e.get H K=_;simp only[mEqN,evalOp,Z0B]
 |not x=>intro K;show mNot x lim call e.get H K=_;simp only[mNot,evalOp,j1o]
 |conv j k x=>intro K;show mConv j k x lim call e.get H K=_;simp only[mConv,evalOp,K0l]
 |fldC o x=>intro K;show mFldC o x lim call e.get H K=_;simp only[mFldC,evalOp,j0W]
 |fldA o n x=>intro K;show mFldA o n x lim call e.get H K=_;simp only[mFldA,evalOp,j0W]
 |idx sz x i=>intro K;show mIdx sz x i lim call e.get H K=_;simp only[mIdx,evalOp,Z0B]
 |sub sz x lo hi=>intro K;show mSub sz x lo hi lim call e.get H K=_;simp only[mSub,evalOp,Z0B,w1A,w1B]
 |len x=>intro K;show mLen x lim call e.get H K=_;simp only[mLen,evalOp,Z0B]
 |app sz s x=>intro K;show mApp sz s x lim call e.get H K=_;simp only[mApp,evalOp,Z0B,Q1Y]
 |mkS sz z n=>intro K;show mMkS sz z n lim call e.get H K=_;simp only[mMkS,evalOp,K0l,j0B]
 |call f kd args=>intro K;show mCall f kd args lim call e.get H K=_;simp only[mCall,evalOp,K0m]
 |callV x kd args=>intro K;show mCallV x kd args lim call e.get H K=_;simp only[mCallV,evalOp,Z0B,K0m]
 |ext kd x i=>intro K;show mExt kd x i lim call e.get H K=_;simp only[mExt,evalOp,j0W]
 |_=>intro K;exact j1n lim call e H _ K
end
theorem q0Q(a b:Nat):Nat.beq a b=decide (a=b):=by
 cases hh:Nat.beq a b with
 |true=>simp[Nat.eq_of_beq_eq_true hh]
 |false=>simp[Nat.ne_of_beq_eq_false hh]
noncomputable def memB(l:List Nat)(q:Nat):Bool:=List.rec (motive:=fun _=>Bool) false (fun p _ ih=>bif Nat.beq p q then true else ih) l
theorem w0W(q:Nat): ∀l:List Nat,memB l q=l.contains q
 | []=>rfl
 |p::l=>by
  show(bif Nat.beq p q then true else memB l q)=_
  rw[w0W q l,q0Q]
  simp only[cond_eq_ite,dE,List.contains_eq_mem,mC]
  by_cases h:p=q
  ·subst h;simp
  ·have: ¬q=p:=fun e=>h e.symm
   simp[h,this]
noncomputable def allB(n:Nat)(l:List Nat):Bool:=List.rec (motive:=fun _=>Bool) true (fun p _ ih=>bif Nat.blt p n then ih else false) l
theorem j1q(n:Nat): ∀l:List Nat,allB n l=l.all fun p=>decide (p<n)
 | []=>rfl
 |p::l=>by
  show(bif Nat.blt p n then allB n l else false)=_
  rw[j1q n l]
  have:Nat.blt p n=decide (p<n):=by
   cases hb:Nat.blt p n with
   |true=>have:=Nat.le_of_ble_eq_true hb;simp;omega
   |false=>have:=Nat.not_le_of_not_ble_eq_true (by rw[show Nat.ble (p+1) n=Nat.blt p n from rfl,hb];simp);simp;omega
  rw[this,List.all_cons]
  cases decide (p<n)<;>rfl
noncomputable def xclean(ks ts:List Nat)(g:G):G:=fun q=>bif memB ks q then .poison else match g q with
 | .laddr r o=>bif memB ks r||memB ts r then .poison else .laddr r o
 | .loc cs=>bif memB ts q then .poison else .loc cs
 |t=>t
theorem j1r(ks ts:List Nat)(g:G):xclean ks ts g=fun q=>T.clean ks ts q (g q):=by
 funext q
 simp only[xclean,T.clean,w0W,cond_eq_ite]
 rfl
def isLoc:T->Bool
 | .loc _=>true
 |_=>false
noncomputable def xkill(ds:List Nat)(g:G):G:=fun q=>bif memB ds q then .poison else match g q with
 | .laddr r o=>bif memB ds r&&isLoc (g r)then .poison else .laddr r o
 |t=>t
def forceT{R:Type}(t:T)(K:T->R):R:=match t with
 | .poison=>K .poison
 | .val v=>K (.val v)
 | .loc cs=>K (.loc cs)
 | .laddr q o=>K (.laddr q o)
def tabK{R:Type}:List Nat->G->(G->R)->R
 | [],g,K=>K fun _=> .poison
 |p::ps,g,K=>tabK ps g fun g'=>forceT (g p) fun t=>K fun q=>bif Nat.beq q p then t else g' q
def argG:Nat->List V->G
 |_,[]=>fun _=> .poison
 |i,v::vs=>let g:=argG (i+1) vs;fun q=>bif Nat.beq q i then .val v else g q
structure G2 where
 v:G
 t:G
structure SX where
 n:Nat
 L:List Nat
 W:List Nat
noncomputable def fn(s:SX)(g:G2):G:=fun q=>bif memB s.W q then g.v q else g.t q
def chain(g:G)(p:Nat)(t:T):G:=fun q=>bif Nat.beq q p then t else g q
def purgeG(g:G)(p:Nat)(t:T):G:=fun q=>bif Nat.beq q p then t else(g q).purge p
noncomputable def gput(s:SX)(g:G2)(p:Nat)(t:T):G2:=
 bif memB s.L p then(match fn s g p with
  | .loc _=>⟨purgeG g.v p (t.purge p),purgeG g.t p (t.purge p)⟩
  |_=>⟨chain g.v p (t.purge p),chain g.t p (t.purge p)⟩)else bif memB s.W p then⟨chain g.v p (t.purge p),g.t⟩else⟨g.v,chain g.t p (t.purge p)⟩
def gloc(g:G2)(p:Nat)(xs:List C):G2:=⟨purgeG g.v p (.loc xs),purgeG g.t p (.loc xs)⟩
def gset(g:G2)(p:Nat)(t:T):G2:=⟨chain g.v p t,chain g.t p t⟩
noncomputable def killG(ds:List Nat)(f h:G):G:=fun q=>bif memB ds q then .poison else match h q with
 | .laddr r o=>bif memB ds r&&isLoc (f r)then .poison else .laddr r o
 |t=>t
noncomputable def gkill(s:SX)(ds:List Nat)(g:G2):G2:=⟨killG ds (fn s g) g.v,killG ds (fn s g) g.t⟩
noncomputable def gclean(ks ts:List Nat)(g:G2):G2:=⟨xclean ks ts g.v,xclean ks ts g.t⟩
noncomputable def livesW(W dead:List Nat):List Nat:=W.filter fun p=> !memB dead p
noncomputable def gjump(s:SX)(dead:List Nat)(g:G2)(K:G2->Rs):Rs:=tabK (livesW s.W dead) (xkill dead (fn s g)) fun g'=>K ⟨g',killG dead (fn s g) g.t⟩
abbrev KO:=G2->Heap->Rs
abbrev NO:=SX->Nat->CallT->G2->Heap->KO->Rs
def nNil:NO:=fun _ _ _ g H K=>K g H
noncomputable def yopV(o:ROp):XS (V×Heap):=yop o
noncomputable def nOp(d:Option Nat)(o:ROp)(ih:NO):NO:=fun s lim call g H K=>match d with
 |some d=>bif Nat.blt d s.n then yopV o lim call (fn s g) H fun t H'=>ih s lim call (gput s g d t) H' K else none
 |none=>yopV o lim call (fn s g) H fun _ H'=>ih s lim call g H' K
noncomputable def nLbox(m p:Nat)(x:X)(ih:NO):NO:=fun s lim call g H K=>(gev (fn s g) x).bind fun v=>v.cells.bind fun xs=>if xs.length=m/\p<s.n/\memB s.L p=true then ih s lim call (gloc g p xs) H K else none
noncomputable def nLnew(p:Nat)(z:List C)(ih:NO):NO:=fun s lim call g H K=>if p<s.n/\memB s.L p=true then ih s lim call (gloc g p z) H K else none
noncomputable def nSt(hp:Option Nat)(m:Nat)(a x:X)(ih:NO):NO:=fun s lim call g H K=>(gev (fn s g) x).bind fun v=>v.cells.bind fun xs=>if xs.length≠m then none else match locAt (fn s g) a with
 |some q=>if hp≠some q.1 then none else(cellsG (fn s g) q.1).bind fun cs=>if q.2+m<=cs.length then ih s lim call (gset g q.1 (.loc (splice cs q.2 xs))) H K else none
 |none=>(gobj (fn s g) a).bind fun q=>if hp≠none then none else stF lim H q.1 q.2 xs fun H'=>ih s lim call g H' K
noncomputable def nLogic(and:Bool)(c:Nat)(inner:Ops)(keep:X)(d:Nat)(ihi ihr:NO):NO:=fun s lim call g H K=>(gB (fn s g) (.t c)).bind fun b=>
 (if b=and then ihi s lim call g H (fun g' H'=>(gB (fn s g') keep).bind fun r=>some (.c (.bool r),H'))else some (.c (.bool b),H)).bind fun q=>
  (q.1.asC.bind C.asB).bind fun b'=>if d<s.n then ihr s lim call (gput s (gkill s (dsts inner) g) d (.val (.c (.bool b')))) q.2 K else none
noncomputable def nrun(o:Ops):NO:=Ops.rec (motive:=fun _=>NO) nNil (fun d o _ ih=>nOp d o ih) (fun m p x _ ih=>nLbox m p x ih) (fun p z _ ih=>nLnew p z ih) (fun hp m a x _ ih=>nSt hp m a x ih) (fun and c inner keep d _ ihi ihr=>nLogic and c inner keep d ihi ihr) o
abbrev KTx:=Flow->G2->Heap->Rs
structure CX where
 lim:Nat
 call:CallT
 s:SX
 jmp:Nat->List Nat->G2->Heap->Rs
 fin:G2->Heap->Rs
abbrev NE:=CX->G2->Heap->KTx->Rs
def nSeqK(f:G2->Heap->Rs)(K:KTx):KTx:=fun fl g H=>match fl with
 | .normal=>f g H
 | .exit id=>K (.exit id) g H
def nBlockK(id:Nat)(K:KTx):KTx:=fun fl g H=>match fl with
 | .normal=>K .normal g H
 | .exit i=>if i=id then K .normal g H else K (.exit i) g H
def nJoin(j:Option (Nat×List Nat))(c:CX)(K:KTx):KTx:=match j with
 |none=>K
 |some q=>fun fl g H=>match fl with
  | .normal=>c.jmp q.1 q.2 g H
  | .exit id=>K (.exit id) g H
def nLoop(l:Nat)(dead:List Nat)(c:CX)(K:KTx):KTx:=fun fl g H=>match fl with
 | .normal=>c.jmp l dead g H
 | .exit id=>K (.exit id) g H
def eSkip:NE:=fun _ g H K=>K .normal g H
noncomputable def eOps(o:Ops):NE:=fun c g H K=>nrun o c.s c.lim c.call g H fun g' H'=>K .normal g' H'
noncomputable def eDops(ks ts:List Nat)(o:Ops):NE:=fun c g H K=>bif allB c.s.n (ks++ts)then nrun o c.s c.lim c.call (gclean ks ts g) H fun g' H'=>K .normal g' H' else none
def eSeq(a b:NE):NE:=fun c g H K=>a c g H (nSeqK (fun g' H'=>b c g' H' K) K)
noncomputable def eCond(x:X)(j:Option (Nat×List Nat))(a b:NE):NE:=fun c g H K=>(gB (fn c.s g) x).bind fun q=>if q=true then a c g H (nJoin j c K)else b c g H (nJoin j c K)
def eBlock(id:Nat)(a:NE):NE:=fun c g H K=>a c g H (nBlockK id K)
def eLoop(l:Nat)(dead:List Nat):NE:=fun c g H _=>c.jmp l dead g H
def eExit(id:Nat):NE:=fun _ g H K=>K (.exit id) g H
def eRet:NE:=fun c g H _=>c.fin g H
def eStuck:NE:=fun _ _ _ _=>none
noncomputable def nexec(r:RC):NE:=RC.rec (motive:=fun _=>NE) eSkip eOps (fun _ ks ts o=>eDops ks ts o) (fun _ _ a b=>eSeq a b) (fun x _ _ j a b=>eCond x j a b) (fun id _ a=>eBlock id a) (fun l dead _ _=>eLoop l dead) eExit eRet eStuck r
def jl(l:Nat)(j:Option (Nat×List Nat)):Bool:=match j with
 |some q=>Nat.beq q.1 l
 |none=>false
theorem Q1Z(l:Nat)(j:Option (Nat×List Nat)):jl l j=decide (j.map (·.1)=some l):=by
 cases j with
 |none=>simp[jl]
 |some q=>simp[jl,q0Q]
def hasLab(l:Nat):RC->Bool
 | .seq a b=>hasLab l a||hasLab l b
 | .cond _ a b j=>jl l j||(hasLab l a||hasLab l b)
 | .block _ c=>hasLab l c
 | .loop l' _ c=>Nat.beq l' l||hasLab l c
 |_=>false
abbrev NF:=Nat->CX->KTx->Option (G2->Heap->Rs)
def fNo:NF:=fun _ _ _=>none
noncomputable def fSeq(a b:RC)(iha ihb:NF):NF:=fun l c K=>bif hasLab l a then iha l c (nSeqK (fun g' H'=>nexec b c g' H' K) K)else ihb l c K
def fCond(j:Option (Nat×List Nat))(a:RC)(iha ihb:NF):NF:=fun l c K=>bif jl l j then some (K .normal)else bif hasLab l a then iha l c (nJoin j c K)else ihb l c (nJoin j c K)
def fBlock(id:Nat)(ih:NF):NF:=fun l c K=>ih l c (nBlockK id K)
noncomputable def fLoop(l':Nat)(dead:List Nat)(b:RC)(ih:NF):NF:=fun l c K=>bif Nat.beq l' l then some fun g H=>nexec b c g H (nLoop l' dead c K)else ih l c (nLoop l' dead c K)
noncomputable def nfind(r:RC):NF:=RC.rec (motive:=fun _=>NF) fNo (fun _=>fNo) (fun _ _ _ _=>fNo) (fun a b iha ihb=>fSeq a b iha ihb) (fun _ a _ j iha ihb=>fCond j a iha ihb) (fun id _ ih=>fBlock id ih) (fun l dead b ih=>fLoop l dead b ih) (fun _=>fNo) fNo fNo r
def xres1(g:G)(H:Heap):Res->Option V
 | .t p=>ev [] ((X.t p).sub g)
 | .cell1 a=>match locAt g (.t a)with
  |some q=>(cellsG g q.1).bind fun cs=>(cs[q.2]?).bind fun x=>some (.c x)
  |none=>placeK [] ((X.t a).sub g) (fun _ _=>none) fun i o=>(H.ld i o).bind fun x=>some (.c x)
 | .cells a n=>match locAt g (.t a)with
  |some q=>(cellsG g q.1).bind fun cs=>if q.2+n<=cs.length then some (.agg ((cs.drop q.2).take n))else none
  |none=>placeK [] ((X.t a).sub g) (fun _ _=>none) fun i o=>(H.ldN i o n).bind fun x=>some (.agg x)
def xresAll(g:G)(H:Heap):List Res->Option (List V)
 | []=>some []
 |r::rs=>(xres1 g H r).bind fun v=>(xresAll g H rs).bind fun vs=>some (v::vs)
def xfin(rf:RFunc)(g:G)(H:Heap):Rs:=(xresAll g H rf.res).bind fun
 | [v]=>some (v,H)
 |vs=>some (.tuple vs,H)
noncomputable def nend(s:SX)(rf:RFunc):KTx:=fun fl g H=>match fl with
 | .normal=>xfin rf (fn s g) H
 | .exit _=>none
structure XR where
 call:CallT
 lab:FuncId->Nat->G2->Heap->Rs
noncomputable def cxOf(lim:Nat)(r:XR)(f:FuncId)(s:SX)(rf:RFunc):CX:=⟨lim,r.call,s,fun l dead g H=>gjump s dead g fun g'=>r.lab f l g' H,fun g H=>xfin rf (fn s g) H⟩
noncomputable def xstep(prog:FuncId->Option RFunc)(sx:FuncId->List Nat×List Nat)(lim:Nat)(r:XR):XR where
 call f vs H:=match prog f with
  |none=>none
  |some rf=>if vs.length<=rf.ntmps then nexec rf.body (cxOf lim r f ⟨rf.ntmps,(sx f).1,(sx f).2⟩ rf) ⟨argG 0 vs,argG 0 vs⟩ H (nend ⟨rf.ntmps,(sx f).1,(sx f).2⟩ rf)else none
 lab f l g H:=match prog f with
  |none=>none
  |some rf=>if l=0 then none else match nfind rf.body l (cxOf lim r f ⟨rf.ntmps,(sx f).1,(sx f).2⟩ rf) (nend ⟨rf.ntmps,(sx f).1,(sx f).2⟩ rf)with
   |some k=>k g H
   |none=>none
noncomputable def xrunN(prog:FuncId->Option RFunc)(sx:FuncId->List Nat×List Nat)(lim:Nat):Nat->XR
 | 0=>⟨fun _ _ _=>none,fun _ _ _ _=>none⟩
 |k+1=>xstep prog sx lim (xrunN prog sx lim k)
structure Rl (s:SX) (g:G2) (e:Env):Prop where
 get:fn s g=e.get
 len:e.length=s.n
 loc: ∀q cs,e.get q= .loc cs->memB s.L q=true
theorem j1s(e:Env)(p q:Nat):Env.get (e.map (T.purge p)) q=(e.get q).purge p:=by
 unfold Env.get
 rw[lG,lG,List.getElem?_map]
 cases e[q]? <;>simp[T.purge]
theorem w0X(e:Env){p:Nat}(hp:p<e.length)(t:T)(q:Nat):Env.get (e.set p t) q=if q=p then t else e.get q:=by
 by_cases h:q=p
 ·subst h;rw[if_pos rfl,q0K hp]
 ·rw[if_neg h,q0h h]
theorem z0K{e:Env}{p:Nat}(hp:p<e.length)(t:T)(q:Nat):(e.put p t).get q=if q=p then t.purge p else if isLoc (e.get p)=true then(e.get q).purge p else e.get q:=by
 unfold Env.put
 cases h:e.get p with
 |loc cs=>simp only[isLoc,iT];rw[w0X _ (by simpa using hp),j1s]
 |_=>simp only[isLoc,bF,iF];rw[w0X _ hp]
theorem J0C(e:Env)(p q:Nat):(e.put p .poison).get q=if q=p then .poison else if isLoc (e.get p)=true then(e.get q).purge p else e.get q:=by
 by_cases hp:p<e.length
 ·rw[z0K hp];rfl
 ·have hget:e.get p= .poison:=by unfold Env.get;rw[lG,List.getElem?_eq_none (by omega)];rfl
  have:e.put p .poison=e:=by
   unfold Env.put
   rw[hget]
   exact List.set_eq_of_length_le (by omega)
  rw[this,hget]
  by_cases hq:q=p
  ·subst hq;simp[hget]
  ·simp[hq,isLoc]
theorem w0Y: ∀(ds:List Nat) (e:Env),(Env.kill ds e).get=xkill ds e.get
 | [],e=>by
  funext q
  simp only[Env.kill,xkill,w0W,List.contains_nil,cond_false,Bool.false_and]
  cases e.get q<;>rfl
 |p::ps,e=>by
  simp only[Env.kill]
  rw[w0Y ps]
  funext q
  simp only[xkill,w0W,cond_eq_ite,bA,List.contains_eq_mem,dE,mC]
  rw[J0C]
  by_cases h1:q∈ps
  ·simp[h1]
  ·by_cases h2:q=p
   ·subst h2;simp[h1]
   ·simp only[h1,h2,or_self,iF]
    by_cases hl:isLoc (e.get p)=true
    ·simp only[hl,iT]
     cases hq:e.get q with
     |laddr r o=>
      by_cases hr:r=p
      ·subst hr;simp[T.purge,hl]
      ·simp only[T.purge,hr,iF,false_or]
       rw[J0C]
       simp only[hr,iF,hl,iT]
       have:isLoc ((e.get r).purge p)=isLoc (e.get r):=by
        cases hh:e.get r with
        |laddr q' o'=>simp only[T.purge];split<;>rfl
        |_=>rfl
       rw[this]
     |_=>rfl
    ·simp only[hl,iF,bF]
     cases hq:e.get q with
     |laddr r o=>
      simp only
      rw[J0C]
      by_cases hr:r=p
      ·subst hr
       have hf:isLoc (e.get r)=false:=by simpa using hl
       simp only[iT,hf,show isLoc T.poison=false from rfl,bF,and_false,iF]
      ·simp[hr,hl]
     |_=>rfl
theorem Q0H(ks ts:List Nat)(e:Env)(p:Nat):(Env.clean ks ts e).get p=T.clean ks ts p (e.get p):=by
 have: ∀(e:Env) (k p:Nat),(Env.cleanFrom ks ts k e).get p=T.clean ks ts (k+p) (e.get p):=by
  intro e
  induction e with
  |nil=>intro k p;simp only[Env.cleanFrom,Env.get,List.getD_nil,T.clean];split<;>rfl
  |cons t e ih=>
   intro k p
   cases p with
   |zero=>rfl
   |succ p=>
    have:=ih (k+1) p
    simp only[Env.get,Env.cleanFrom,List.getD_cons_succ]at this⊢
    rw[this,show k+1+p=k+(p+1) by omega]
 have:=this e 0 p
 rwa [Nat.zero_add]at this
theorem k1H{e:Env}{p:Nat}{t:T}:(e.put p t).length=e.length:=by unfold Env.put;split<;>simp
theorem Z0C: ∀{ds:List Nat} {e:Env},(Env.kill ds e).length=e.length
 | [],e=>rfl
 |d::ds,e=>by rw[Env.kill,Z0C,k1H]
theorem j1t{R:Type}(t:T)(K:T->R):forceT t K=K t:=by cases t<;>rfl
theorem j1u{R:Type}: ∀(ls:List Nat) (g:G) (K:G->R),tabK ls g K=K fun q=>if q∈ls then g q else .poison
 | [],g,K=>by simp[tabK]
 |p::ps,g,K=>by
  simp only[tabK,j1u ps,j1t]
  congr 1
  funext q
  simp only[q0Q,cond_eq_ite,dE,mC]
  by_cases h:q=p
  ·subst h;simp
  ·simp[h]
theorem j1v{R:Type}{lim:Nat}{cx c:CallT}(hc: ∀f vs H r,cx f vs H=some r->c f vs H=some r){e:Env}{H:Heap}{o:ROp}{Kx K:T->Heap->Option R}(hK: ∀t H r,Kx t H=some r->K t H=some r){r:R}(h:evalOp lim cx e H o Kx=some r):evalOp lim c e H o K=some r:=by
 have h1: ∀f vs H,Apx (fun k=>(fun k=>if k=0 then cx else c) k f vs H) (c f vs H):=fun f vs H=>by
  have:=Apx.two (hc f vs H)
  refine⟨fun j y hy=> ?_,fun j y hy=> ?_,fun y hy=>⟨1,by simpa using hy⟩⟩
  ·have:=this.up j y (by by_cases hj:j=0<;>simp_all)
   by_cases hj:j=0<;>simp_all
  ·exact this.hi j y (by by_cases hj:j=0<;>simp_all)
 have h2: ∀t H,Apx (fun k=>(fun k=>if k=0 then Kx else K) k t H) (K t H):=fun t H=>by
  have:=Apx.two (hK t H)
  refine⟨fun j y hy=> ?_,fun j y hy=> ?_,fun y hy=>⟨1,by simpa using hy⟩⟩
  ·have:=this.up j y (by by_cases hj:j=0<;>simp_all)
   by_cases hj:j=0<;>simp_all
  ·exact this.hi j y (by by_cases hj:j=0<;>simp_all)
 exact(w1g (lim:=lim) h1 e H o h2).hi 0 r (by simpa using h)
theorem K1R{lim:Nat}{cx c:CallT}(hc: ∀f vs H r,cx f vs H=some r->c f vs H=some r){e:Env}{H:Heap}{o:ROp}{R:Type}{Kx:T->Heap->Option R}{r:R}(h:evalOp lim cx e H o Kx=some r): ∃t H',Kx t H'=some r/\(∀cs,t≠ .loc cs)/\ ∀{R2:Type} (K2:T->Heap->Option R2),evalOp lim c e H o K2=K2 t H':=by
 obtain⟨t,H',h1,n1⟩:=q0r h
 have h2:=j1v hc (Kx:=fun t H=>some (t,H)) (K:=fun t H=>some (t,H)) (fun _ _ _ h=>h) (n1.all fun t H=>some (t,H))
 obtain⟨t2,H2,h3,n2⟩:=q0r h2
 cases h3
 exact⟨t,H',h1,n1.noloc,n2.all⟩
theorem J0D(s:SX)(f:G->G)(hf: ∀g h q,g q=h q->f g q=f h q)(g:G2):fn s ⟨f g.v,f g.t⟩=f (fn s g):=by
 funext q
 cases h:memB s.W q with
 |true=>simp only[fn,h,cond_true];exact hf _ _ _ (by simp only[fn,h,cond_true])
 |false=>simp only[fn,h,cond_false];exact hf _ _ _ (by simp only[fn,h,cond_false])
theorem X0q(s:SX)(g:G2)(p:Nat)(t:T):fn s ⟨chain g.v p t,chain g.t p t⟩=chain (fn s g) p t:=
 J0D s (fun h=>chain h p t) (fun g h q e=>by simp only[chain,e]) g
theorem X0r(s:SX)(g:G2)(p:Nat)(t:T):fn s ⟨purgeG g.v p t,purgeG g.t p t⟩=purgeG (fn s g) p t:=
 J0D s (fun h=>purgeG h p t) (fun g h q e=>by simp only[purgeG,e]) g
theorem j1w(s:SX)(ds:List Nat)(g:G2):fn s (gkill s ds g)=xkill ds (fn s g):=
 (J0D s (fun h=>killG ds (fn s g) h) (fun g h q e=>by simp only[killG,e]) g).trans rfl
theorem k1I(s:SX)(ks ts:List Nat)(g:G2):fn s (gclean ks ts g)=xclean ks ts (fn s g):=
 J0D s (fun h=>xclean ks ts h) (fun g h q e=>by simp only[xclean,e]) g
theorem j1x{s:SX}{g:G2}{e:Env}(R:Rl s g e){p:Nat}(hp:p<s.n){t:T}(ht: ∀cs,t≠ .loc cs):Rl s (gput s g p t) (e.put p t):=by
 have hp':p<e.length:=by rw[R.len];exact hp
 have hpt: ∀cs,t.purge p≠ .loc cs:=fun cs h=>by
  rcases q0n p t with h1 |⟨h1,_⟩
  ·rw[h1]at h;exact ht cs h
  ·rw[h1]at h;cases h
 refine⟨?_,by unfold Env.put;split<;>simp[R.len],fun q cs h=> ?_⟩
 ·unfold gput
  cases hL:memB s.L p with
  |true=>
   simp only[cond_true]
   cases hg:fn s g p with
   |loc cs=>
    simp only
    rw[X0r]
    funext q
    rw[z0K hp',<-R.get,hg]
    simp only[purgeG,q0Q,cond_eq_ite,dE,isLoc,iT]
   |_=>
    simp only
    rw[X0q]
    funext q
    rw[z0K hp',<-R.get,hg]
    simp only[chain,q0Q,cond_eq_ite,dE,isLoc,bF,iF]
  |false=>
   have hnl:isLoc (e.get p)=false:=by
    cases hg:e.get p with
    |loc cs=>have:=R.loc p cs hg;rw[hL]at this;cases this
    |_=>rfl
   simp only[cond_false]
   cases hW:memB s.W p with
   |true=>
    funext q
    rw[z0K hp',hnl,<-R.get]
    simp only[cond_true,fn,chain,q0Q,cond_eq_ite,dE,bF,iF]
    by_cases hq:q=p
    ·subst hq;simp[hW,chain,q0Q]
    ·simp[hq,chain,q0Q]
   |false=>
    funext q
    rw[z0K hp',hnl,<-R.get]
    simp only[cond_false,fn,chain,q0Q,cond_eq_ite,dE,bF,iF]
    by_cases hq:q=p
    ·subst hq;simp[hW,chain,q0Q]
    ·simp[hq,chain,q0Q]
 ·rw[z0K hp']at h
  split at h
  ·exact absurd h (hpt cs)
  ·split at h
   ·rcases q0n p (e.get q)with h1 |⟨h1,_⟩
    ·rw[h1]at h;exact R.loc q cs h
    ·rw[h1]at h;cases h
   ·exact R.loc q cs h
theorem j1y{s:SX}{g:G2}{e:Env}(R:Rl s g e){p:Nat}(hp:p<s.n)(hL:memB s.L p=true)(xs:List C):Rl s (gloc g p xs) ((e.map (T.purge p)).set p (.loc xs)):=by
 have hget: ∀q,Env.get ((e.map (T.purge p)).set p (.loc xs)) q=if q=p then .loc xs else(e.get q).purge p:=fun q=>by rw[w0X _ (by simp[R.len];omega),j1s]
 refine⟨?_,by simp[R.len],fun q cs h=> ?_⟩
 ·unfold gloc
  rw[X0r,R.get]
  funext q
  rw[hget]
  simp only[purgeG,q0Q,cond_eq_ite,dE]
 ·rw[hget]at h
  split at h
  ·rename_i hq;rw[hq];exact hL
  ·rcases q0n p (e.get q)with h1 |⟨h1,_⟩
   ·rw[h1]at h;exact R.loc q cs h
   ·rw[h1]at h;cases h
theorem X0s{s:SX}{g:G2}{e:Env}(R:Rl s g e)(ds:List Nat):Rl s (gkill s ds g) (Env.kill ds e):=by
 refine⟨by rw[j1w,R.get,w0Y],by rw[Z0C,R.len],fun q cs h=> ?_⟩
 rw[w0Y]at h
 simp only[xkill,cond_eq_ite]at h
 split at h
 ·cases h
 ·cases hg:e.get q with
  |loc cs'=>exact R.loc q cs' hg
  |laddr r o=>rw[hg]at h;revert h;simp only;split<;>(intro h;cases h)
  |_=>rw[hg]at h;cases h
theorem k1J{s:SX}{g:G2}{e:Env}(R:Rl s g e)(dead:List Nat){K:G2->Rs}{r:V×Heap}(h:gjump s dead g K=some r): ∃g',K g'=some r/\Rl s g' (Env.kill dead e):=by
 unfold gjump at h
 rw[j1u]at h
 refine⟨_,h, ?_⟩
 have K0:=X0s R dead
 refine⟨?_,K0.len,K0.loc⟩
 rw[<-K0.get,j1w]
 funext q
 cases hW:memB s.W q with
 |true=>
  simp only[fn,hW,cond_true]
  by_cases hq:q∈livesW s.W dead
  ·rw[if_pos hq]
  ·rw[if_neg hq]
   have:memB dead q=true:=by
    simp only[livesW,List.mem_filter,bN,not_and,Bool.not_eq_false]at hq
    exact hq (by rw[w0W]at hW;simpa using hW)
   simp only[xkill,this,cond_true]
 |false=>simp only[fn,hW,cond_false,killG,xkill]
section
variable{lim:Nat}{cx c:CallT}{s:SX}
theorem j0O(hc: ∀f vs H r,cx f vs H=some r->c f vs H=some r): ∀(o:Ops) {g:G2} {e:Env} {H:Heap} {Kx:KO} {r:V×Heap},Rl s g e->nrun o s lim cx g H Kx=some r-> ∃g' e' H',Kx g' H'=some r/\Rl s g' e'/\ ∀{R2:Type} (K2:Env->Heap->Option R2),runOps lim c o e H K2=K2 e' H'
 | .nil,g,e,H,Kx,r,hR,h=>⟨g,e,H,h,hR,fun K2=>by simp only[runOps]⟩
 | .op d o rest,g,e,H,Kx,r,hR,h=>by
  have h:nOp d o (nrun rest) s lim cx g H Kx=some r:=h
  have one: ∀{K:T->Heap->Rs},yopV o lim cx (fn s g) H K=some r-> ∃t H',K t H'=some r/\(∀cs,t≠ .loc cs)/\ ∀{R2:Type} (K2:T->Heap->Option R2),evalOp lim c e H o K2=K2 t H':=fun hk=>by
   have hk:yop o lim cx (fn s g) H _=some r:=hk
   rw[hR.get,K1d]at hk
   exact K1R hc hk
  cases d with
  |none=>
   simp only[nOp]at h
   obtain⟨t,H1,h1,h2,h3⟩:=one h
   obtain⟨g',e',H',k1,k2,k3⟩:=j0O hc rest hR h1
   exact⟨g',e',H',k1,k2,fun K2=>by simp only[runOps,Env.putO];rw[h3,k3]⟩
  |some d=>
   simp only[nOp]at h
   cases hb:Nat.blt d s.n with
   |false=>rw[hb]at h;cases h
   |true=>
    rw[hb]at h
    obtain⟨t,H1,h1,h2,h3⟩:=one h
    obtain⟨g',e',H',k1,k2,k3⟩:=j0O hc rest (j1x hR (Nat.le_of_ble_eq_true hb) h2) h1
    exact⟨g',e',H',k1,k2,fun K2=>by simp only[runOps,Env.putO];rw[h3,k3]⟩
 | .lbox m p x rest,g,e,H,Kx,r,hR,h=>by
  have h:nLbox m p x (nrun rest) s lim cx g H Kx=some r:=h
  simp only[nLbox,hR.get,j0W]at h
  obtain⟨v,hv,h⟩:=oB.1 h
  obtain⟨xs,hxs,h⟩:=oB.1 h
  split at h
  ·rename_i hb
   obtain⟨g',e',H',k1,k2,k3⟩:=j0O hc rest (j1y hR hb.2.1 hb.2.2 xs) h
   exact⟨g',e',H',k1,k2,fun K2=>by simp only[runOps,hv,hxs,oS,hb.1,iT];rw[k3]⟩
  ·cases h
 | .lnew p z rest,g,e,H,Kx,r,hR,h=>by
  have h:nLnew p z (nrun rest) s lim cx g H Kx=some r:=h
  simp only[nLnew]at h
  split at h
  ·rename_i hb
   obtain⟨g',e',H',k1,k2,k3⟩:=j0O hc rest (j1y hR hb.1 hb.2 z) h
   exact⟨g',e',H',k1,k2,fun K2=>by simp only[runOps];rw[k3]⟩
  ·cases h
 | .st hp m a x rest,g,e,H,Kx,r,hR,h=>by
  have h:nSt hp m a x (nrun rest) s lim cx g H Kx=some r:=h
  simp only[nSt,hR.get,j0W]at h
  obtain⟨v,hv,h⟩:=oB.1 h
  obtain⟨xs,hxs,h⟩:=oB.1 h
  split at h
  ·cases h
  ·rename_i hm
   split at h
   ·rename_i q hq
    split at h
    ·cases h
    ·rename_i hh
     rw[j0V]at h
     obtain⟨cs,hcs,h⟩:=oB.1 h
     split at h
     ·rename_i hle
      have hloc:e.get q.1= .loc cs:=by unfold locCells at hcs;cases hg:e.get q.1<;>rw[hg]at hcs<;>simp at hcs;rw[hcs]
      have hlt:q.1<e.length:=by
       by_cases hlt:q.1<e.length
       ·exact hlt
       ·have:e.get q.1= .poison:=by unfold Env.get;rw[lG,List.getElem?_eq_none (by omega)];rfl
        rw[this]at hloc;cases hloc
      have hR2:Rl s (gset g q.1 (.loc (splice cs q.2 xs))) (e.set q.1 (.loc (splice cs q.2 xs))):=by
       refine⟨?_,by simp[hR.len],fun j cs' h=> ?_⟩
       ·unfold gset
        rw[X0q,hR.get]
        funext j
        rw[w0X _ hlt]
        simp only[chain,q0Q,cond_eq_ite,dE]
       ·rw[w0X _ hlt]at h
        split at h
        ·rename_i hj;rw[hj];exact hR.loc q.1 cs hloc
        ·exact hR.loc j cs' h
      obtain⟨g',e',H',k1,k2,k3⟩:=j0O hc rest hR2 h
      exact⟨g',e',H',k1,k2,fun K2=>by simp only[runOps,hv,hxs,oS,if_neg hm,j0u hq,if_neg hh,hcs,if_pos hle];rw[k3]⟩
     ·cases h
   ·rename_i hq
    obtain⟨q,hqo,h⟩:=oB.1 h
    split at h
    ·cases h
    ·rename_i hh
     rw[w1C]at h
     obtain⟨H1,hst,h⟩:=oB.1 h
     obtain⟨g',e',H',k1,k2,k3⟩:=j0O hc rest hR h
     refine⟨g',e',H',k1,k2,fun{R2} K2=> ?_⟩
     have hpl: ∀(Kl Ko:Nat->Nat->Option R2),placeK e a Kl Ko=Ko q.1 q.2:=by
      intro Kl Ko
      simp only[gobj,j0W]at hqo
      cases a with
      |t p=>
       simp only[locAt]at hq
       simp only[ev]at hqo
       simp only[placeK]
       cases hg:e.get p<;>rw[hg]at hq hqo<;>simp at hq hqo⊢
       rw[hqo];rfl
      |c v=>simp only[ev,oS]at hqo;simp only[placeK,hqo,oS]
      |f h=>simp[ev,V.asP,V.asC]at hqo
     simp only[runOps,hv,hxs,oS,if_neg hm]
     rw[hpl]
     simp only[if_neg hh,hst,oS]
     rw[k3]
 | .logic and cc inner keep d rest,g,e,H,Kx,r,hR,h=>by
  have h:nLogic and cc inner keep d (nrun inner) (nrun rest) s lim cx g H Kx=some r:=h
  simp only[nLogic,hR.get,j1o]at h
  obtain⟨b,hb,h⟩:=oB.1 h
  obtain⟨q,hq,h⟩:=oB.1 h
  obtain⟨b',hb',h9⟩:=oB.1 h
  clear h
  have hq':(if b=and then runOps lim c inner e H (fun e' H'=>(evB e' keep).bind fun r=>some (r,H'))else some (b,H))=some (b',q.2):=by
   split at hq
   ·rename_i hba
    rw[if_pos hba]
    obtain⟨g',e',H',k1,k2,k3⟩:=j0O hc inner hR hq
    rw[k3]
    rw[k2.get,j1o]at k1
    obtain⟨r0,hr0,k1⟩:=oB.1 k1
    cases k1
    simp only[V.asC,C.asB,oS,oI]at hb'
    subst hb'
    rw[hr0];rfl
   ·rename_i hba
    rw[if_neg hba]
    cases hq
    simp only[V.asC,C.asB,oS,oI]at hb'
    rw[hb']
  split at h9
  ·rename_i hd
   obtain⟨g',e',H',k1,k2,k3⟩:=j0O hc rest (j1x (X0s hR (dsts inner)) hd (fun cs h=>by cases h)) h9
   exact⟨g',e',H',k1,k2,fun K2=>by simp only[runOps,hb,oS,hq'];rw[k3]⟩
  ·cases h9
def KLe(s:SX)(Kx:KTx)(K:KT):Prop:= ∀fl g e H r,Rl s g e->Kx fl g H=some r->K fl e H=some r
def GLe(s:SX)(gx:G2->Heap->Rs)(ge:Env->Heap->Rs):Prop:= ∀g e H r,Rl s g e->gx g H=some r->ge e H=some r
variable{d:CX}{j:Nat->Env->Heap->Rs}{f:Env->Heap->Rs}
theorem w1D{gx:G2->Heap->Rs}{ge:Env->Heap->Rs}(hg:GLe s gx ge){Kx:KTx}{K:KT}(hK:KLe s Kx K):KLe s (nSeqK gx Kx) (seqK ge K):=by
 intro fl g e H r hR h
 cases fl with
 |normal=>exact hg _ _ _ _ hR h
 |exit id=>exact hK _ _ _ _ _ hR h
theorem X0t{Kx:KTx}{K:KT}(hK:KLe s Kx K)(id:Nat):KLe s (nBlockK id Kx) (blockK id K):=by
 intro fl g e H r hR h
 cases fl with
 |normal=>exact hK _ _ _ _ _ hR h
 |exit i=>
  simp only[nBlockK]at h
  simp only[blockK]
  split at h
  ·rename_i hi;rw[if_pos hi];exact hK _ _ _ _ _ hR h
  ·rename_i hi;rw[if_neg hi];exact hK _ _ _ _ _ hR h
theorem j1z(hj: ∀l dead,GLe s (fun g H=>d.jmp l dead g H) (fun e H=>j l (Env.kill dead e) H)){Kx:KTx}{K:KT}(hK:KLe s Kx K)(jn:Option (Nat×List Nat)):KLe s (nJoin jn d Kx) (joinK j jn K):=by
 intro fl g e H r hR h
 cases jn with
 |none=>exact hK _ _ _ _ _ hR h
 |some x=>
  obtain⟨l,dead⟩:=x
  cases fl with
  |normal=>exact hj l dead _ _ _ _ hR h
  |exit id=>exact hK _ _ _ _ _ hR h
theorem j1A(hj: ∀l dead,GLe s (fun g H=>d.jmp l dead g H) (fun e H=>j l (Env.kill dead e) H)){Kx:KTx}{K:KT}(hK:KLe s Kx K)(l:Nat)(dead:List Nat):KLe s (nLoop l dead d Kx) (loopK j l dead K):=by
 intro fl g e H r hR h
 cases fl with
 |normal=>exact hj l dead _ _ _ _ hR h
 |exit id=>exact hK _ _ _ _ _ hR h
end
section
variable{c:CallT}{d:CX}{j:Nat->Env->Heap->Rs}{f:Env->Heap->Rs}(hc: ∀f vs H r,d.call f vs H=some r->c f vs H=some r)(hj: ∀l dead,GLe d.s (fun g H=>d.jmp l dead g H) (fun e H=>j l (Env.kill dead e) H))(hf:GLe d.s d.fin f)
include hc hj hf
theorem j0I: ∀(rc:RC) {Kx:KTx} {K:KT},KLe d.s Kx K->GLe d.s (fun g H=>nexec rc d g H Kx) (fun e H=>exec d.lim c j f rc e H K)
 | .skip,Kx,K,hK=>fun g e H r hR h=>hK _ _ _ _ _ hR h
 | .ops o,Kx,K,hK=>fun g e H r hR h=>by
  obtain⟨g',e',H',k1,k2,k3⟩:=j0O hc o hR (show nrun o d.s d.lim d.call g H (fun g' H'=>Kx .normal g' H')=some r from h)
  simp only[exec]
  rw[k3]
  exact hK _ _ _ _ _ k2 k1
 | .dops pm ks ts o,Kx,K,hK=>fun g e H r hR h=>by
  have h:eDops ks ts o d g H Kx=some r:=h
  simp only[eDops]at h
  cases hb:allB d.s.n (ks++ts)with
  |false=>rw[hb]at h;cases h
  |true=>
   rw[hb]at h
   rw[j1q]at hb
   have hl:(Env.clean ks ts e).length=e.length:=by
    have: ∀(e:Env) (k:Nat),(Env.cleanFrom ks ts k e).length=e.length:=by
     intro e
     induction e with
     |nil=>intro k;rfl
     |cons t e ih=>intro k;simp[Env.cleanFrom,ih]
    exact this e 0
   have hR2:Rl d.s (gclean ks ts g) (Env.clean ks ts e):=by
    refine⟨?_,by rw[hl,hR.len],fun q cs h=> ?_⟩
    ·rw[k1I,j1r,hR.get];funext q;rw[Q0H]
    ·rw[Q0H]at h
     unfold T.clean at h
     split at h
     ·cases h
     ·split at h
      ·split at h<;>cases h
      ·rename_i cs' hg;split at h
       ·cases h
       ·exact hR.loc q _ hg
      ·exact hR.loc q cs h
   obtain⟨g',e',H',k1,k2,k3⟩:=j0O hc o hR2 h
   simp only[exec]
   rw[if_pos (by rw[hR.len];exact hb),k3]
   exact hK _ _ _ _ _ k2 k1
 | .seq a b,Kx,K,hK=>fun g e H r hR h=>by
  simp only[exec]
  exact j0I a (w1D (j0I b hK) hK) g e H r hR h
 | .cond x a b jn,Kx,K,hK=>fun g e H r hR h=>by
  have h:eCond x jn (nexec a) (nexec b) d g H Kx=some r:=h
  simp only[eCond,hR.get,j1o]at h
  obtain⟨cb,hcb,h⟩:=oB.1 h
  simp only[exec,hcb,oS]
  have hJ:=j1z (s:=d.s) hj hK jn
  split at h
  ·rename_i hb;rw[if_pos hb];exact j0I a hJ _ e H r hR h
  ·rename_i hb;rw[if_neg hb];exact j0I b hJ _ e H r hR h
 | .block id cc,Kx,K,hK=>fun g e H r hR h=>by
  simp only[exec]
  exact j0I cc (X0t hK id) g e H r hR h
 | .loop l dead cc,Kx,K,hK=>fun g e H r hR h=>by
  simp only[exec]
  exact hj l dead _ _ _ _ hR h
 | .exit id,Kx,K,hK=>fun g e H r hR h=>hK _ _ _ _ _ hR h
 | .ret,Kx,K,hK=>fun g e H r hR h=>hf _ _ _ _ hR h
 | .stuck,Kx,K,hK=>fun g e H r hR h=>by cases h
omit hc hj hf in
theorem j0n(l:Nat): ∀(r:RC) (K:KT),(find d.lim c j f l r K).isSome=hasLab l r
 | .skip,K=>rfl
 | .ops o,K=>rfl
 | .dops pm ks ts o,K=>rfl
 | .seq a b,K=>by
  simp only[find,hasLab]
  rw[<-j0n l b K,<-j0n l a (seqK (fun g' H'=>exec d.lim c j f b g' H' K) K)]
  cases find d.lim c j f l a _<;>rfl
 | .cond x a b jn,K=>by
  simp only[find,hasLab]
  rw[<-j0n l b (joinK j jn K),<-j0n l a (joinK j jn K)]
  rw[Q1Z]
  by_cases h:jn.map (·.1)=some l
  ·simp[h]
  ·simp only[h,iF,dF,Bool.false_or]
   cases find d.lim c j f l a _<;>rfl
 | .block id a,K=>by simp only[find,hasLab];exact j0n l a _
 | .loop l' dead a,K=>by
  simp only[find,hasLab,q0Q]
  by_cases h:l'=l
  ·simp[h]
  ·simp only[h,iF,dF,Bool.false_or];exact j0n l a _
 | .exit id,K=>rfl
 | .ret,K=>rfl
 | .stuck,K=>rfl
theorem z0l(l:Nat): ∀(rc:RC) {Kx:KTx} {K:KT},KLe d.s Kx K-> ∀gx,nfind rc l d Kx=some gx-> ∃ge,find d.lim c j f l rc K=some ge/\GLe d.s gx ge
 | .skip,Kx,K,hK,gx,h=>by cases h
 | .ops o,Kx,K,hK,gx,h=>by cases h
 | .dops p ks ts o,Kx,K,hK,gx,h=>by cases h
 | .exit id,Kx,K,hK,gx,h=>by cases h
 | .ret,Kx,K,hK,gx,h=>by cases h
 | .stuck,Kx,K,hK,gx,h=>by cases h
 | .seq a b,Kx,K,hK,gx,h=>by
  have h:fSeq a b (nfind a) (nfind b) l d Kx=some gx:=h
  simp only[fSeq]at h
  simp only[find]
  have hl:=j0n (c:=c) (d:=d) (j:=j) (f:=f) l a (seqK (fun g' H'=>exec d.lim c j f b g' H' K) K)
  cases hb:hasLab l a with
  |true=>
   rw[hb]at h
   obtain⟨ge,k1,k2⟩:=z0l l a (w1D (j0I hc hj hf b hK) hK) gx h
   exact⟨ge,by rw[k1];rfl,k2⟩
  |false=>
   rw[hb]at h hl
   obtain⟨ge,k1,k2⟩:=z0l l b hK gx h
   exact⟨ge,by rw[Option.isSome_eq_false_iff.1 hl|>Option.isNone_iff_eq_none.1,k1];rfl,k2⟩
 | .cond x a b jn,Kx,K,hK,gx,h=>by
  have h:fCond jn a (nfind a) (nfind b) l d Kx=some gx:=h
  simp only[fCond]at h
  simp only[find]
  have hJ:=j1z (s:=d.s) hj hK jn
  by_cases hjn:jn.map (·.1)=some l
  ·rw[if_pos hjn]
   simp only[Q1Z,hjn,dY,cond_true]at h
   cases h
   exact⟨_,rfl,fun g e H r hR h=>hK _ _ _ _ _ hR h⟩
  ·rw[if_neg hjn]
   simp only[Q1Z,hjn,dF,cond_false]at h
   have hl:=j0n (c:=c) (d:=d) (j:=j) (f:=f) l a (joinK j jn K)
   cases hb:hasLab l a with
   |true=>
    rw[hb]at h
    obtain⟨ge,k1,k2⟩:=z0l l a hJ gx h
    exact⟨ge,by rw[k1];rfl,k2⟩
   |false=>
    rw[hb]at h hl
    obtain⟨ge,k1,k2⟩:=z0l l b hJ gx h
    exact⟨ge,by rw[Option.isSome_eq_false_iff.1 hl|>Option.isNone_iff_eq_none.1,k1];rfl,k2⟩
 | .block id cc,Kx,K,hK,gx,h=>by
  simp only[find]
  exact z0l l cc (X0t hK id) gx h
 | .loop l' dead cc,Kx,K,hK,gx,h=>by
  have h:fLoop l' dead cc (nfind cc) l d Kx=some gx:=h
  simp only[fLoop,q0Q]at h
  simp only[find]
  by_cases hl:l'=l
  ·simp only[hl,dY,cond_true,oI]at h
   subst h
   rw[if_pos hl]
   exact⟨_,rfl,j0I hc hj hf cc (by have:=j1A (s:=d.s) hj hK l dead;rw[hl];exact this)⟩
  ·simp only[hl,dF,cond_false]at h
   rw[if_neg hl]
   exact z0l l cc (j1A (s:=d.s) hj hK l' dead) gx h
end
theorem K0n(s:SX)(rf:RFunc):GLe s (fun g H=>xfin rf (fn s g) H) (finish rf):=by
 intro g e H r hR h
 simp only[hR.get]at h
 have h1: ∀r,xres1 e.get H r=res1 e H r:=by
  intro r
  cases r with
  |t p=>simp only[xres1,res1,Z0A]
  |cell1 a=>
   simp only[xres1,res1]
   cases h:locAt e.get (.t a)with
   |some q=>simp only[j0u h,j0V]
   |none=>simp only;rw[j0U _ _ _ _ h];simp only[locAt]at h;simp only[placeK];cases hp:e.get a<;>rw[hp]at h<;>simp at h<;>rfl
  |cells a n=>
   simp only[xres1,res1]
   cases h:locAt e.get (.t a)with
   |some q=>simp only[j0u h,j0V]
   |none=>simp only;rw[j0U _ _ _ _ h];simp only[locAt]at h;simp only[placeK];cases hp:e.get a<;>rw[hp]at h<;>simp at h<;>rfl
 have h2: ∀rs,xresAll e.get H rs=resAll e H rs:=by
  intro rs
  induction rs with
  |nil=>rfl
  |cons r rs ih=>simp only[xresAll,resAll,h1,ih]
 simp only[xfin,h2]at h
 exact h
theorem J0E: ∀(vs:List V) (i q:Nat),argG i vs q=if i<=q then(vs.map T.val).getD (q - i) .poison else .poison
 | [],i,q=>by simp[argG]
 |v::vs,i,q=>by
  simp only[argG,q0Q,cond_eq_ite,dE]
  rw[J0E vs (i+1) q]
  by_cases h:q=i
  ·subst h;simp
  ·rw[if_neg h]
   by_cases h2:i<=q
   ·rw[if_pos (by omega),if_pos h2,show q - i=(q - (i+1))+1 by omega];simp
   ·rw[if_neg (by omega),if_neg h2]
theorem X0u{prog:FuncId->Option RFunc}{sx:FuncId->List Nat×List Nat}{lim:Nat}: ∀k,(∀f vs H r,(xrunN prog sx lim k).call f vs H=some r->callOf (runN noExt prog lim k) f vs H=some r)/\(∀f g H,(xrunN prog sx lim k).lab f 0 g H=none)/\ ∀f rf,prog f=some rf-> ∀l,l≠0->GLe ⟨rf.ntmps,(sx f).1,(sx f).2⟩ ((xrunN prog sx lim k).lab f l) (runN noExt prog lim k f l)
 | 0=>⟨fun f vs H r h=>(by cases h),fun f g H=>rfl,fun f rf _ l _ g e H r _ h=>(by cases h)⟩
 |k+1=>by
  obtain⟨ih1,ih2,ih3⟩:=X0u k (prog:=prog) (sx:=sx) (lim:=lim)
  have hj: ∀f rf,prog f=some rf-> ∀l dead,GLe ⟨rf.ntmps,(sx f).1,(sx f).2⟩ (fun g H=>(cxOf lim (xrunN prog sx lim k) f ⟨rf.ntmps,(sx f).1,(sx f).2⟩ rf).jmp l dead g H) (fun e H=>runN noExt prog lim k f l (Env.kill dead e) H):=by
   intro f rf hf l dead g e H r hR h
   have h:gjump ⟨rf.ntmps,(sx f).1,(sx f).2⟩ dead g (fun g'=>(xrunN prog sx lim k).lab f l g' H)=some r:=h
   obtain⟨g',h1,h2⟩:=k1J hR dead h
   by_cases hl:l=0
   ·subst hl;rw[ih2]at h1;cases h1
   ·exact ih3 f rf hf l hl _ _ _ _ h2 h1
  have hend: ∀f rf,KLe ⟨rf.ntmps,(sx f).1,(sx f).2⟩ (nend ⟨rf.ntmps,(sx f).1,(sx f).2⟩ rf) (endK rf):=fun f rf fl g e H r hR h=>by
   cases fl with
   |normal=>exact K0n _ rf _ _ _ _ hR h
   |exit id=>cases h
  refine⟨fun f vs H r h=> ?_,fun f g H=> ?_,fun f rf hf l hl g e H r hR h=> ?_⟩
  ·simp only[xrunN,xstep]at h
   show stepR noExt prog lim (runN noExt prog lim k) f 0 (vs.map .val) H=some r
   cases hf:prog f with
   |none=>rw[hf]at h;cases h
   |some rf=>
    rw[hf]at h
    simp only at h
    split at h
    ·rename_i hlen
     simp only[stepR,hf,iT]
     have hget: ∀q,argG 0 vs q=Env.get (vs.map T.val++List.replicate (rf.ntmps - (vs.map T.val).length) .poison) q:=fun q=>by
      rw[J0E,if_pos (Nat.zero_le _),Nat.sub_zero]
      unfold Env.get
      rw[lG,lG]
      by_cases hq:q<(vs.map T.val).length
      ·rw[List.getElem?_append_left hq]
      ·rw[List.getElem?_append_right (by omega),List.getElem?_eq_none (l:=vs.map T.val) (by omega),List.getElem?_replicate]
       split<;>rfl
     refine j0I (d:=cxOf lim (xrunN prog sx lim k) f ⟨rf.ntmps,(sx f).1,(sx f).2⟩ rf) ih1 (hj f rf hf) (K0n _ rf) rf.body (hend f rf) _ _ H r ⟨?_, ?_,fun q cs hq=> ?_⟩ h
     ·funext q
      rw[<-hget]
      show(bif memB (sx f).2 q then argG 0 vs q else argG 0 vs q)=_
      cases memB (sx f).2 q<;>rfl
     ·show(_++_:List T).length=rf.ntmps
      simp;omega
     ·rw[<-hget,J0E,if_pos (Nat.zero_le _),lG,List.getElem?_map]at hq
      cases hv:vs[q - 0]? <;>rw[hv]at hq<;>simp at hq
    ·cases h
  ·simp only[xrunN,xstep]
   cases prog f with
   |none=>rfl
   |some rf=>rfl
  ·simp only[xrunN,xstep,hf,if_neg hl]at h
   show stepR noExt prog lim (runN noExt prog lim k) f l e H=some r
   simp only[stepR,hf,if_neg hl]
   cases hn:nfind rf.body l (cxOf lim (xrunN prog sx lim k) f ⟨rf.ntmps,(sx f).1,(sx f).2⟩ rf) (nend ⟨rf.ntmps,(sx f).1,(sx f).2⟩ rf)with
   |none=>rw[hn]at h;cases h
   |some gx=>
    rw[hn]at h
    obtain⟨ge,k1,k2⟩:=z0l (d:=cxOf lim (xrunN prog sx lim k) f ⟨rf.ntmps,(sx f).1,(sx f).2⟩ rf) (j:=runN noExt prog lim k f) ih1 (hj f rf hf) (K0n _ rf) l rf.body (hend f rf) gx hn
    have:find lim (callOf (runN noExt prog lim k)) (runN noExt prog lim k f) (finish rf) l rf.body (endK rf)=some ge:=k1
    rw[this]
    exact k2 _ _ _ _ hR h
theorem K1S{prog:FuncId->Option RFunc}{sx:FuncId->List Nat×List Nat}{A:FuncId}{k:Nat}(h:((xrunN prog sx 0 k).call A [] H0).map (·.1)=some (.c (.bool true))): ∃H',Vm.run noExt prog 0 A 0 [] H0=some (.c (.bool true),H'):=by
 obtain⟨⟨v,H'⟩,h1,h2⟩:=oM.1 h
 simp only at h2
 subst h2
 exact⟨H',(w0F noExt prog 0 A 0 [] H0).hi k _ ((X0u k).1 A [] H0 _ h1)⟩
inductive U where
 |c (x:C)
 |st (cs:List U)
 |sl (b:Bool) (es:List U)
 |ref (v:U) (o:Nat)
 |fn (f:FuncId) (first cap:List U)
 |ifc (t:TypeId) (agg:Bool) (cs:List U)
 deriving Inhabited
structure Sx where
 b:Bool
 sz:Nat
 es:List U
 deriving Inhabited
inductive Oc where
 |u (x:U)
 |h (k:Nat)
 deriving Inhabited
inductive Ob where
 |none
 |sl (s:Sx)
 |ob (cs:List Oc)
 |oa (v:U)
 |fz (u:U)
 deriving Inhabited
inductive Y where
 |poison
 |val (u:U)
 |tup (us:List U)
 |agg (cs:List Oc)
 |loc (cs:List Oc)
 |h (k:Nat)
 |w (k lo n:Nat)
 |addr (q c:Nat)
 |oaddr (k c:Nat)
 |eaddr (k j c:Nat)
 deriving Inhabited
def Ob.isNone:Ob->Bool
 | .none=>true
 |_=>false
structure Z where
 s:Nat->Y
 o:Nat->Ob
 n:Nat
def C.flat:C->Bool
 | .ptr _ _ | .slice _ _ _ | .map _ | .func _ _ _ | .iface _ _ _ | .nilSlice=>false
 |_=>true
def U.of:C->Option U
 | .nilSlice=>some (.sl false [])
 |x=>if x.flat=true then some (.c x)else none
def U.ofs:List C->Option (List U)
 | []=>some []
 |x::xs=>(U.of x).bind fun u=>(U.ofs xs).bind fun us=>some (u::us)
def U.cells:U->List U
 | .st cs=>cs
 |x=>[x]
def U.size(u:U):Nat:=u.cells.length
def U.cell(u:U)(k:Nat):Option U:=u.cells[k]?
def U.setc(u:U)(k:Nat)(x:U):Option U:=
 match u with
 | .st cs=>if k<cs.length then some (.st (cs.set k x))else none
 |_=>if k=0 then some x else none
def U.isSt:U->Bool
 | .st _=>true
 |_=>false
def U.asC:U->Option C
 | .c x=>some x
 |_=>none
def U.asI(k:IntKind)(u:U):Option Int:=u.asC.bind (C.asI k)
def U.asB(u:U):Option Bool:=u.asC.bind C.asB
def U.asS(u:U):Option ByteArray:=u.asC.bind C.asS
def U.asIx(u:U):Option Int:=u.asC.bind C.asIx
def U.asCs:U->Option (List U)
 | .st cs=>some cs
 |_=>none
def U.asF:U->Option (FuncId×List U×List U)
 | .fn f a b=>some (f,a,b)
 |_=>none
def U.asR:U->Option (U×Nat)
 | .ref v o=>some (v,o)
 |_=>none
def U.asL:U->Option (Bool×List U)
 | .sl b es=>some (b,es)
 |_=>none
def U.fl:U->Bool
 | .c x=>x.flat
 |_=>false
def U.scal:U->Bool
 | .c x=>x.flat
 | .st cs=>cs.all U.fl
 |_=>false
def U.hasK(k:K0)(u:U):Bool:=
 match k with
 | .c=>true
 | .int k=>match u with
  | .c (.int j _)=>j==k
  |_=>false
 | .bool=>match u with
  | .c (.bool _)=>true
  |_=>false
 | .str=>match u with
  | .c (.str _)=>true
  |_=>false
def hasKs:List K0->List U->Bool
 | [],[]=>true
 |k::ks,u::us=>u.hasK k&&hasKs ks us
 |_,_=>false
def U.isNil:NK->U->Option Bool
 | .slice, .sl b _=>some (!b)
 | .ptr, .ref _ _=>some false
 | .func, .fn _ _ _=>some false
 | .iface, .ifc _ _ _=>some false
 |nk, .c x=>Vm.isNil nk x
 |_,_=>none
def U.part(u:U)(o n:Nat):Option U:=
 match u with
 | .st cs=>if o+n<=cs.length then some (.st ((cs.drop o).take n))else none
 |_=>none
def U.struct(u:U)(o:Nat)(ks:List K0):Option (Nat->U):=
 match u with
 | .st cs=>if o+ks.length<=cs.length/\hasKs ks ((cs.drop o).take ks.length)=true then some (fun i=>cs.getD (o+i) (.c .junk))else none
 |_=>none
def U.exact(u:U)(ks:List K0):Option (Nat->U):=
 match u with
 | .st cs=>if cs.length=ks.length/\hasKs ks cs=true then some (fun i=>cs.getD i (.c .junk))else none
 |_=>none
def U.i:U->Int
 | .c (.int _ n)=>n
 |_=>0
def U.b:U->Bool
 | .c (.bool b)=>b
 |_=>false
def U.s:U->ByteArray
 | .c (.str s)=>s
 |_=> .empty
def tcell(k:K0)(u:U):U:=
 match k with
 | .c=>u
 | .int k=> .c (.int k u.i)
 | .bool=> .c (.bool u.b)
 | .str=> .c (.str u.s)
def tcells(f:Nat->U):Nat->List K0->List U
 |_,[]=>[]
 |i,k::ks=>tcell k (f i)::tcells f (i+1) ks
def U.take0{R:Type}(k:K0)(u:U)(K:U->Option R):Option R:=
 match k with
 | .c=>K u
 | .int k=>(u.asI k).bind fun n=>K (.c (.int k n))
 | .bool=>u.asB.bind fun b=>K (.c (.bool b))
 | .str=>u.asS.bind fun b=>K (.c (.str b))
def U.one:U->Option U
 | .st _=>none
 |u=>some u
def U.take{R:Type}(kd:KD)(u:U)(K:U->Option R):Option R:=
 match kd with
 | .any=>K u
 | .one k=>match k with
  | .c=>u.one.bind K
  |k=>u.take0 k K
 | .agg ks=>(u.exact ks).bind fun f=>K (.st (tcells f 0 ks))
def flats:List U->Option (List C)
 | []=>some []
 |u::us=>u.asC.bind fun x=>(flats us).bind fun xs=>some (x::xs)
def eqUs(ks:List K0)(u v:U):Option Bool:=u.asCs.bind fun us=>v.asCs.bind fun vs=>(flats us).bind fun xs=>(flats vs).bind fun ys=>eqKs ks xs ys
def elU(sz:Nat)(es:List U)(i:Int):Option U:=if 0<=i then(es[i.toNat]?).bind fun v=>if v.size=sz then some v else none else none
def U.idx(sz:Nat)(u:U)(i:Int):Option U:=u.asL.bind fun q=>elU sz q.2 i
def U.isNilSl:U->Bool
 | .sl false []=>true
 |_=>false
def U.len(u:U):Option Nat:=u.asL.map fun q=>q.2.length
def subU(sz:Nat)(es:List U)(lo:Int)(hi:Option Int):Option (List U):=
 if 0<=lo/\lo<=hi.getD es.length/\hi.getD es.length<=es.length/\es.all (fun v=>v.size==sz)=true then some ((es.drop lo.toNat).take (hi.getD es.length - lo).toNat)else none
def U.sub(sz:Nat)(u:U)(lo:Int)(hi:Option Int):Option U:=u.asL.bind fun q=>(subU sz q.2 lo hi).map fun es=> .sl q.1 es
def Sx.nil:Sx:=⟨false,0,[]⟩
def Sx.fz(s:Sx):U:= .sl s.b s.es
def Sx.has(s:Sx)(sz:Nat)(i:Int):Bool:=decide (0<=i)&&decide (i<s.es.length)&&s.sz==sz
def Sx.app(s:Sx)(sz:Nat)(xs:List U):Option Sx:=
 if(s.b=false\/s.sz=sz)/\xs.all (fun v=>v.size==sz)=true/\roomy (s.es.length+xs.length)then
  (if s.b=false/\xs=[]then some s else some ⟨true,sz,s.es++xs⟩)else none
def Sx.win(s:Sx)(lo n:Nat):Sx:=⟨s.b,s.sz,(s.es.drop lo).take n⟩
def Sx.put(s:Sx)(n j k:Nat)(u:U):Option Sx:=
 if n=s.sz/\k=0 then(if u.size=n/\j<s.es.length then some {s with es:=s.es.set j u}else none)
 else if n=1/\u.isSt=false then(s.es[j]?).bind fun v=>(v.setc k u).map fun v'=>{s with es:=s.es.set j v'}else none
abbrev base:Nat:=10000
def Z.put(z:Z)(p:Nat)(t:Y):Z:=⟨fun q=>bif Nat.beq q p then t else z.s q,z.o,z.n⟩
def Z.putO(z:Z):Option Nat->Y->Z
 |some d,t=>z.put d t
 |none,_=>z
def Z.kill:List Nat->Z->Z
 | [],z=>z
 |p::ps,z=>Z.kill ps (z.put p .poison)
def Z.setO(z:Z)(k:Nat)(b:Ob):Z:=⟨z.s,fun j=>bif Nat.beq j k then b else z.o j,z.n⟩
def Y.purge(p:Nat):Y->Y
 | .addr q c=>if q=p then .poison else .addr q c
 |y=>y
def Z.loc(z:Z)(p:Nat)(cs:List Oc):Z:=⟨fun q=>bif Nat.beq q p then .loc cs else(z.s q).purge p,z.o,z.n⟩
def Z.new{R:Type}(z:Z)(b:Ob)(K:Y->Z->Option R):Option R:=
 if z.n<10000 then K (.h z.n) ⟨z.s,fun j=>bif Nat.beq j z.n then b else z.o j,z.n+1⟩else none
def Z.zeros{R:Type}:Z->List C->(List Oc->Z->Option R)->Option R
 |z,[],K=>K [] z
 |z, .nilSlice::cs,K=>z.new (.sl .nil) fun y z'=>Z.zeros z' cs fun r z''=>K (.h z.n::r) z''
 |z,c::cs,K=>(U.of c).bind fun u=>Z.zeros z cs fun r z'=>K (.u u::r) z'
def Z.look(o:Nat->Ob):Nat->Nat->Option U
 | 0,_=>none
 |f+1,k=>match o k with
  | .sl s=>some s.fz
  | .oa v=>some (.ref v 0)
  | .fz u=>some u
  | .ob cs=>(lookC (Z.look o f) cs).map fun us=> .ref (.st us) 0
  | .none=>none
where
 lookC (f:Nat->Option U):List Oc->Option (List U)
  | []=>some []
  | .u x::cs=>(lookC f cs).map fun us=>x::us
  | .h k::cs=>(f k).bind fun u=>(lookC f cs).map fun us=>u::us
def Z.lk(z:Z)(k:Nat):Option U:=Z.look z.o 4 k
def Z.lkC(z:Z)(cs:List Oc):Option (List U):=Z.look.lookC (Z.look z.o 4) cs
def Z.fzO(z:Z):Nat->Nat->Option Z
 | 0,_=>none
 |f+1,k=>match z.o k with
  | .sl s=>some (z.setO k (.fz s.fz))
  | .oa v=>some (z.setO k (.fz (.ref v 0)))
  | .fz _=>some z
  | .ob cs=>(z.lk k).bind fun u=>(fzC f z cs).map fun z'=>z'.setO k (.fz u)
  | .none=>none
where
 fzC (f:Nat):Z->List Oc->Option Z
  |z,[]=>some z
  |z, .u _::cs=>fzC f z cs
  |z, .h k::cs=>match z.o k with
   | .sl s=>fzC f (z.setO k (.fz s.fz)) cs
   | .oa v=>fzC f (z.setO k (.fz (.ref v 0))) cs
   | .fz _=>fzC f z cs
   |_=>none
def yl(z:Z):X->Option U
 | .c (.c x)=>U.of x
 | .c (.agg cs)=>(U.ofs cs).map .st
 | .c (.tuple _)=>none
 | .f g=>some (.fn g [] [])
 | .t p=>match z.s p with
  | .val u=>some u
  | .agg cs=>(z.lkC cs).map .st
  | .h k=>z.lk k
  | .w k lo n=>match z.o k with
   | .sl s=>some (s.win lo n).fz
   |_=>none
  | .oaddr k c=>match z.o k with
   | .fz (.ref v o)=>some (.ref v (o+c))
   |_=>none
  |_=>none
def yf(z:Z)(x:X):Option (U×Z):=
 match x with
 | .t p=>match z.s p with
  | .val u=>some (u,z)
  | .agg cs=>(z.lkC cs).bind fun us=>(Z.fzO.fzC 3 z cs).map fun z'=>(.st us,z')
  | .h k=>(z.lk k).bind fun u=>(z.fzO 4 k).map fun z'=>(u,z')
  | .w k lo n=>match z.o k with
   | .sl s=>some ((s.win lo n).fz,z.setO k (.fz s.fz))
   |_=>none
  | .oaddr k c=>match z.o k with
   | .fz (.ref v o)=>some (.ref v (o+c),z)
   |_=>none
  |_=>none
 |x=>(yl z x).map fun u=>(u,z)
def yap(z:Z)(x:X):Option (U×Z):=
 match x with
 | .t p=>match z.s p with
  | .h k=>match z.o k with
   | .sl s=>some (s.fz,z)
   |_=>yf z x
  |_=>yf z x
 |_=>yf z x
def ylI(k:IntKind)(z:Z)(x:X):Option Int:=(yl z x).bind (U.asI k)
def ylB(z:Z)(x:X):Option Bool:=(yl z x).bind U.asB
def ylS(z:Z)(x:X):Option ByteArray:=(yl z x).bind U.asS
def ylIx(z:Z)(x:X):Option Int:=(yl z x).bind U.asIx
def yls(z:Z):List X->Option (List U)
 | []=>some []
 |x::xs=>(yl z x).bind fun v=>(yls z xs).bind fun vs=>some (v::vs)
def yfs(z:Z):List X->Option (List U×Z)
 | []=>some ([],z)
 |x::xs=>(yf z x).bind fun q=>(yfs q.2 xs).bind fun r=>some (q.1::r.1,r.2)
def ylLo(z:Z):Option X->Option Int
 |none=>some 0
 |some l=>ylIx z l
def ylHi(z:Z):Option X->Option (Option Int)
 |none=>some none
 |some h=>(ylIx z h).map some
def U.split(n:Nat):U->Option (Nat->U)
 | .st cs=>if cs.length=n then some (fun i=>cs.getD i (.c .junk))else none
 |_=>none
def ucs{R:Type}(n:Nat)(u:U)(K:List Oc->Option R):Option R:=if n=1 then u.one.bind fun w=>K [.u w]else(u.split n).bind fun f=>K ((List.range n).map fun i=> .u (f i))
def ypart{R:Type}(z:Z)(n:Nat)(x:X)(K:List Oc->Z->Option R):Option R:=
 match x with
 | .t p=>match z.s p with
  | .h k=>match z.o k with
   | .fz u=>K [.u u] z
   | .none=>none
   |_=>K [.h k] z
  | .agg cs=>K cs z
  |_=>(yf z x).bind fun q=>ucs n q.1 fun cs=>K cs q.2
 |x=>(yl z x).bind fun u=>ucs n u fun cs=>K cs z
def spliceO(c:List Oc)(o:Nat):List Oc->List Oc
 | []=>c
 |x::xs=>spliceO (c.set o x) (o+1) xs
def yfill{R:Type}:Z->List Oc->List (Nat×Nat×X)->(List Oc->Z->Option R)->Option R
 |z,c,[],K=>K c z
 |z,c,(o,n,x)::ps,K=>ypart z n x fun xs z'=>if xs.length=n/\o+n<=c.length then yfill z' (spliceO c o xs) ps K else none
def ybig{R:Type}:Z->Nat->Nat->List (Nat×Nat×X)->(List U->Z->Option R)->Option R
 |z,o,m,[],K=>if o=m then K [] z else none
 |z,o,m,(o',n,x)::ps,K=>(yf z x).bind fun q=>if o'=o then(if q.1.size=n then ybig q.2 (o+n) m ps fun r z'=>K (q.1.cells++r) z' else none)else none
def yelems{R:Type}(sz:Nat):Z->List U->List (Nat×Nat×X)->(List U->Z->Option R)->Option R
 |z,c,[],K=>K c z
 |z,c,(o,n,x)::ps,K=>(yf z x).bind fun q=>if n=sz/\o % sz=0/\o / sz<c.length then(if q.1.size=sz then yelems sz q.2 (c.set (o / sz) q.1) ps K else none)else none
def zeroE(c:List U)(sz:Nat):U:=if sz=1 then(match c with
 | [x]=>x
 |_=> .st c)else .st c
def joinU:List U->U
 | [u]=>u
 |us=> .st us
def onesK{R:Type}:List U->(List U->Option R)->Option R
 | [],K=>K []
 |u::us,K=>u.one.bind fun v=>onesK us fun vs=>K (v::vs)
def KD.isAny:KD->Bool
 | .any=>true
 |_=>false
def KD.plain:KD->Bool
 | .any | .one .c=>true
 |_=>false
def chunks(sz:Nat):Nat->List U->List U
 | 0,_=>[]
 |n+1,us=>zeroE (us.take sz) sz::chunks sz n (us.drop sz)
inductive RM where
 |sc |va |sl |sls
 deriving Inhabited
def RM.safe:RM->Bool
 | .sc | .sls=>true
 |_=>false
inductive Rz where
 |val (u:U)
 |tup (us:List U)
 |sl (s:Sx)
abbrev YRs:=Option Rz
abbrev YCallT:=FuncId->List U->YRs
def Rz.asSl:Rz->Option Sx
 | .sl s=>some s
 |_=>none
def Rz.asTup:Rz->Option (List U)
 | .tup us=>some us
 |_=>none
def Rz.toU:Rz->Option U
 | .val u=>some u
 | .sl s=>some s.fz
 | .tup _=>none
section
variable{R:Type}(md:FuncId->List RM)(call:YCallT)
def yptr(z:Z)(x:X)(Kl:Nat->Nat->Option R)(Ko:Nat->Nat->Option R)(Ke:Nat->Nat->Nat->Option R)(Kf:U->Nat->Option R):Option R:=
 match x with
 | .t p=>match z.s p with
  | .loc _=>Kl p 0
  | .addr q c=>match z.s q with
   | .loc _=>Kl q c
   |_=>none
  | .h k=>match z.o k with
   | .fz u=>u.asR.bind fun a=>Kf a.1 a.2
   | .ob _ | .oa _=>Ko k 0
   |_=>none
  | .oaddr k c=>match z.o k with
   | .fz u=>u.asR.bind fun a=>Kf a.1 (a.2+c)
   | .ob _ | .oa _=>Ko k c
   |_=>none
  | .eaddr k j c=>match z.o k with
   | .sl _=>Ke k j c
   |_=>none
  | .val u=>u.asR.bind fun a=>Kf a.1 a.2
  |_=>none
 |_=>none
def ysl(z:Z)(x:X)(Ko:Nat->Sx->Option R)(Kf:U->Option R):Option R:=
 match x with
 | .t p=>match z.s p with
  | .h k=>match z.o k with
   | .sl s=>Ko k s
   | .fz u=>Kf u
   |_=>none
  | .val u=>Kf u
  |_=>none
 |x=>(yl z x).bind Kf
def ldC(z:Z)(cs:List Oc)(c:Nat)(kd:K0)(K:Y->Z->Option R):Option R:=
 (cs[c]?).bind fun
  | .u x=>x.take0 kd fun u=>K (.val u) z
  | .h k=>match kd with
   | .c=>K (.h k) z
   |_=>none
def ldsC(z:Z)(cs:List Oc)(c n:Nat)(chk:List U->Bool)(K:Y->Z->Option R):Option R:=
 if c+n<=cs.length then(z.lkC ((cs.drop c).take n)).bind fun us=>if chk us=true then(Z.fzO.fzC 3 z ((cs.drop c).take n)).bind fun z'=>K (.val (.st us)) z' else none else none
def ldE(z:Z)(k j:Nat)(K:U->Option R):Option R:=
 match z.o k with
 | .sl s=>(s.es[j]?).bind K
 |_=>none
def yst(z:Z)(hp:Option Nat)(n:Nat)(a x:X)(K:Z->Option R):Option R:=
 if 11<n/\hp=none then(yf z x).bind fun r=>yptr r.2 a (fun _ _=>none) (fun k c=>match r.2.o k with
   | .oa v=>if hp=none/\c=0 then(if v.size=n/\r.1.size=n then K (r.2.setO k (.oa r.1))else none)else none
   |_=>none) (fun _ _ _=>none) (fun _ _=>none)else
 ypart z n x fun r1 z'=>let r:List Oc×Z:=(r1,z');if r.1.length≠n then none else yptr r.2 a
  (fun q c=>match r.2.s q with
   | .loc cs=>if hp=some q/\c+n<=cs.length then K (r.2.put q (.loc (spliceO cs c r.1)))else none
   |_=>none)
  (fun k c=>match r.2.o k with
   | .ob cs=>if hp=none/\c+n<=cs.length then K (r.2.setO k (.ob (spliceO cs c r.1)))else none
   | .oa v=>match r.1 with
    | [.u u]=>if hp=none then(v.setc c u).bind fun v'=>K (r.2.setO k (.oa v'))else none
    |_=>none
   |_=>none)
  (fun k j c=>if hp=none then(r.2.lkC r.1).bind fun us=>(Z.fzO.fzC 3 r.2 r.1).bind fun z'=>match z'.o k with
   | .sl s=>(s.put n j c (joinU us)).bind fun s'=>K (z'.setO k (.sl s'))
   |_=>none else none)
  (fun _ _=>none)
def evalY(z:Z):ROp->(Y->Z->Option R)->Option R
 | .mov x,K=>match x with
  | .t p=>match z.s p with
   | .val u=>K (.val u) z
   | .tup us=>K (.tup us) z
   | .h k=>if(z.o k).isNone=true then none else K (.h k) z
   | .w k lo n=>match z.o k with
    | .sl _=>K (.w k lo n) z
    |_=>none
   | .agg cs=>K (.agg cs) z
   |_=>(yl z x).bind fun u=>K (.val u) z
  | .c (.c .nilSlice)=>z.new (.sl .nil) K
  |x=>(yl z x).bind fun u=>K (.val u) z
 | .box sz x,K=>if sz<=11 then ypart z sz x fun cs z'=>if cs.length=sz then z'.new (.ob cs) K else none
  else(yf z x).bind fun q=>if q.1.size=sz then q.2.new (.oa q.1) K else none
 | .new c,K=>if c.length<=11 then z.zeros c fun cs z'=>z'.new (.ob cs) K else(U.ofs c).bind fun us=>z.new (.oa (.st us)) K
 | .build c ps,K=>if c.length<=24 then z.zeros c fun cs z'=>yfill z' cs ps fun cs z'=>K (.agg cs) z'
  else ybig z 0 c.length ps fun us z'=>K (.val (.st us)) z'
 | .lit sz len c ps,K=>(U.ofs c).bind fun us=>if c.length=len*sz/\0<sz then yelems sz z (chunks sz len us) ps fun us z'=>z'.new (.sl ⟨true,sz,us⟩) K else none
 | .ld kd a,K=>yptr z a (fun _ _=>none) (fun k c=>match z.o k with
   | .ob cs=>ldC z cs c kd K
   | .oa v=>(v.cell c).bind fun x=>x.take0 kd fun u=>K (.val u) z
   |_=>none)
  (fun k j c=>ldE z k j fun v=>(v.cell c).bind fun x=>x.take0 kd fun u=>K (.val u) z)
  (fun v o=>(v.cell o).bind fun x=>x.take0 kd fun u=>K (.val u) z)
 | .lds ks a,K=>yptr z a (fun _ _=>none) (fun k c=>match z.o k with
   | .ob cs=>ldsC z cs c ks.length (hasKs ks) K
   | .oa v=>(v.struct c ks).bind fun f=>K (.val (.st (tcells f 0 ks))) z
   |_=>none)
  (fun k j c=>ldE z k j fun v=>(v.struct c ks).bind fun f=>K (.val (.st (tcells f 0 ks))) z)
  (fun v o=>(v.struct o ks).bind fun f=>K (.val (.st (tcells f 0 ks))) z)
 | .ldN n a,K=>yptr z a (fun q c=>match z.s q with
   | .loc cs=>ldsC z cs c n (fun _=>true) K
   |_=>none) (fun k c=>match z.o k with
   | .ob cs=>ldsC z cs c n (fun _=>true) K
   | .oa v=>(v.part c n).bind fun u=>K (.val u) z
   |_=>none)
  (fun k j c=>ldE z k j fun v=>(v.part c n).bind fun u=>K (.val u) z)
  (fun v o=>(v.part o n).bind fun u=>K (.val u) z)
 | .ldL s kd a,K=>yptr z a (fun q c=>if q=s then(match z.s q with
   | .loc cs=>ldC z cs c kd K
   |_=>none)else none) (fun _ _=>none) (fun _ _ _=>none) (fun _ _=>none)
 | .ldsL s ks a,K=>yptr z a (fun q c=>if q=s then(match z.s q with
   | .loc cs=>ldsC z cs c ks.length (hasKs ks) K
   |_=>none)else none) (fun _ _=>none) (fun _ _ _=>none) (fun _ _=>none)
 | .nilck x,K=>yptr z x (fun _ _=>none) (fun k c=>K (.oaddr k c) z) (fun _ _ _=>none) (fun v o=>K (.val (.ref v o)) z)
 | .ar op k x y,K=>(ylI k z x).bind fun a=>(ylI k z y).bind fun b=>K (.val (.c (.int k (arith op k a b)))) z
 | .cmp op k x y,K=>(ylI k z x).bind fun a=>(ylI k z y).bind fun b=>K (.val (.c (.bool (cmpI op a b)))) z
 | .dv op k x y,K=>(ylI k z x).bind fun a=>(ylI k z y).bind fun b=>if b=0 then none else K (.val (.c (.int k (divI op k a b)))) z
 | .bit op k x y,K=>(ylI k z x).bind fun a=>(ylI k z y).bind fun b=>K (.val (.c (.int k (bitI op k a b)))) z
 | .sh op k j x y,K=>(ylI k z x).bind fun a=>(ylI j z y).bind fun b=>if b<0 then none else K (.val (.c (.int k (shI op k a b)))) z
 | .eqB ne x y,K=>(ylB z x).bind fun a=>(ylB z y).bind fun b=>K (.val (.c (.bool ((a==b)!=ne)))) z
 | .cmpS op x y,K=>(ylS z x).bind fun a=>(ylS z y).bind fun b=>K (.val (.c (.bool (cmpStr op a b)))) z
 | .catS x y,K=>(ylS z x).bind fun a=>(ylS z y).bind fun b=>if roomy (a.size+b.size)then K (.val (.c (.str (a++b)))) z else none
 | .eqN nk ne x,K=>(yl z x).bind fun u=>(u.isNil nk).bind fun b=>K (.val (.c (.bool (b !=ne)))) z
 | .eqA ne ks x y,K=>(yl z x).bind fun u=>(yl z y).bind fun v=>(eqUs ks u v).bind fun b=>K (.val (.c (.bool (b !=ne)))) z
 | .not x,K=>(ylB z x).bind fun b=>K (.val (.c (.bool (!b)))) z
 | .neg k x,K=>(ylI k z x).bind fun a=>K (.val (.c (.int k (k.wrap (0 - a))))) z
 | .conv j k x,K=>(ylI j z x).bind fun a=>K (.val (.c (.int k (k.wrap a)))) z
 | .fld o a,K=>yptr z a (fun q c=>K (.addr q (c+o)) z) (fun k c=>K (.oaddr k (c+o)) z) (fun k j c=>K (.eaddr k j (c+o)) z) (fun v c=>K (.val (.ref v (c+o))) z)
 | .fldC o x,K=>match x with
  | .t p=>match z.s p with
   | .agg cs=>ldC z cs o .c K
   |_=>(yl z x).bind fun u=>u.asCs.bind fun cs=>(cs[o]?).bind fun v=>K (.val v) z
  |x=>(yl z x).bind fun u=>u.asCs.bind fun cs=>(cs[o]?).bind fun v=>K (.val v) z
 | .fldA o n x,K=>(yf z x).bind fun q=>(q.1.part o n).bind fun v=>K (.val v) q.2
 | .idx sz x i,K=>(ylIx z i).bind fun i=>ysl z x (fun k s=>if s.has sz i=true then K (.eaddr k i.toNat 0) z else none) (fun u=>(u.idx sz i).bind fun v=>K (.val (.ref v 0)) z)
 | .idxA n sz a i,K=>(ylIx z i).bind fun m=>if 0<=m/\m<n then yptr z a (fun q c=>K (.addr q (c+m.toNat*sz)) z) (fun k c=>K (.oaddr k (c+m.toNat*sz)) z)
   (fun k j c=>K (.eaddr k j (c+m.toNat*sz)) z) (fun v c=>K (.val (.ref v (c+m.toNat*sz))) z)else none
 | .idxS x i,K=>(ylS z x).bind fun s=>(ylIx z i).bind fun m=>if 0<=m then(s[m.toNat]?).bind fun b=>K (.val (.c (.int .u8 b.toNat))) z else none
 | .idxVC n kd x i,K=>(yf z x).bind fun q=>(ylIx q.2 i).bind fun m=>if 0<=m/\m<n then q.1.asCs.bind fun cs=>(cs[m.toNat]?).bind fun c=>c.take0 kd fun v=>K (.val v) q.2 else none
 | .idxVA n sz x i,K=>(yf z x).bind fun q=>(ylIx q.2 i).bind fun m=>if 0<=m/\m<n then(q.1.part (m.toNat*sz) sz).bind fun v=>K (.val v) q.2 else none
 | .sub sz x lo hi,K=>(ylLo z lo).bind fun l=>(ylHi z hi).bind fun h=>ysl z x
  (fun k s=>if s.sz=sz/\s.b=true then(subU sz s.es l h).bind fun es=>K (.w k l.toNat es.length) z else none)
  (fun u=>(u.sub sz l h).bind fun v=>K (.val v) z)
 | .capN x,K=>(yl z x).bind fun u=>if u.isNilSl=true then K (.val (.c (.int .i64 0))) z else none
 | .appZ sz c s n,K=>(yl z s).bind fun u=>if u.isNilSl=true then(ylI .i64 z n).bind fun n=>(U.ofs c).bind fun us=>if 0<n/\n<=2 ^ 36/\c.length=sz then z.new (.sl ⟨true,sz,List.replicate n.toNat (zeroE us sz)⟩) K else none else none
 | .subS x lo hi,K=>(ylS z x).bind fun s=>(ylLo z lo).bind fun l=>(ylHi z hi).bind fun h=>((C.str s).subS l h).bind fun r=>(U.of r).bind fun u=>K (.val u) z
 | .len x,K=>(yl z x).bind fun u=>u.len.bind fun n=>K (.val (.c (.int .i64 n))) z
 | .lenS x,K=>(ylS z x).bind fun s=>K (.val (.c (.int .i64 s.size))) z
 | .app sz s x,K=>(yap z x).bind fun r=>r.1.asL.bind fun xs=>ysl r.2 s
  (fun k t=>(t.app sz xs.2).bind fun t'=>(r.2.setO k .none).new (.sl t') K)
  (fun u=>match u with
   | .sl false []=>(Sx.nil.app sz xs.2).bind fun t'=>r.2.new (.sl t') K
   |_=>none)
 | .mkS sz c n,K=>(ylI .i64 z n).bind fun n=>(U.ofs c).bind fun us=>if 0<=n/\n<=2 ^ 36/\c.length=sz then z.new (.sl ⟨true,sz,List.replicate n.toNat (zeroE us sz)⟩) K else none
 | .mkF f cap,K=>(yfs z cap).bind fun q=>onesK q.1 fun us=>K (.val (.fn f [] us)) q.2
 | .call f kd args,K=>
  (if(md f).all RM.safe=true then(yls z args).map fun us=>(us,z)else yfs z args).bind fun q=>(call f q.1).bind fun r=>
   match md f with
   | [.sl] | [.sls]=>if kd.plain=true then r.asSl.bind fun s=>q.2.new (.sl s) K else none
   | [_]=>r.toU.bind fun u=>u.take kd fun v=>K (.val v) q.2
   |_=>if kd.isAny=true then r.asTup.bind fun us=>K (.tup us) q.2 else none
 | .callV x kd args,K=>(yl z x).bind fun u=>u.asF.bind fun g=>(yfs z args).bind fun q=>(call g.1 (g.2.1++q.1++g.2.2)).bind fun r=>r.toU.bind fun u=>u.take kd fun v=>K (.val v) q.2
 | .ext kd x i,K=>match x with
  | .t p=>match z.s p with
   | .tup us=>(us[i]?).bind fun u=>u.take kd fun v=>K (.val v) z
   |_=>none
  |_=>none
 | .mkI t x,K=>(yf z x).bind fun q=>match q.1 with
  | .st cs=>K (.val (.ifc t true cs)) q.2
  |u=>K (.val (.ifc t false [u])) q.2
 | .mm mx k x y,K=>(ylI k z x).bind fun a=>(ylI k z y).bind fun b=>K (.val (.c (.int k (if mx then(if b>a then b else a)else(if b<a then b else a))))) z
 | .stH n a x,K=>yst z none n a x fun z'=>K .poison z'
 |_,_=>none
end
structure Rf where
 d:Nat
 p:Nat
 ag:Bool
 ks:List K0
 ob:Option Nat
def ROp.mutes:ROp->Bool
 | .app _ _ _ | .copy _ _ _ | .clr _ _ | .mset _ _ _ _ | .mdel _ _ _ | .stH _ _ _=>true
 | .chkd o _ _ _ _=>o.mutes
 |_=>false
def rdOfY:ROp->Option (Nat×Bool×List K0)
 | .ld kd (.t p)=>some (p,false,[kd])
 | .lds kds (.t p)=>some (p,true,kds)
 |_=>none
def Z.where(z:Z)(p:Nat):Option (Option Nat):=
 match z.s p with
 | .val _=>some none
 | .h k | .oaddr k _=>match z.o k with
  | .fz _=>some none
  | .ob _ | .oa _=>some (some k)
  |_=>none
 | .eaddr k _ _=>match z.o k with
  | .sl _=>some (some k)
  |_=>none
 |_=>none
def touch(z:Z):ROp->Option (Option Nat)
 | .stH _ (.t p) _ | .app _ (.t p) _=>match z.s p with
  | .h k | .oaddr k _ | .eaddr k _ _=>some (some k)
  |_=>some none
 |o=>if o.mutes=true then some none else none
def Rf.safe(r:Rf)(t:Option (Option Nat)):Bool:=
 match r.ob,t with
 |none,_=>true
 |_,none=>true
 |some k,some (some k')=>k !=k'
 |_,_=>false
def noteR(z:Z)(d:Option Nat)(o:ROp)(rs:List Rf):List Rf:=
 let rs1:=rs.filter fun r=>decide (some r.d≠d)&&decide (some r.p≠d)&&r.safe (touch z o.core)
 match d,rdOfY o with
 |some d,some (p,ag,ks)=>if d=p then rs1 else match z.where p with
  |some ob=>⟨d,p,ag,ks,ob⟩::rs1
  |none=>rs1
 |_,_=>rs1
def noteK(ds:List Nat)(rs:List Rf):List Rf:=rs.filter fun r=> !ds.contains r.d&& !ds.contains r.p
def okChk(z:Z)(rs:List Rf):ROp->Bool
 | .chkd o d p ag ks=>rs.any (fun r=>r.d==d&&r.p==p&&r.ag==ag&&r.ks==ks&&r.safe (touch z o.core))&&okChk z rs o
 |_=>true
def gentle:Ops->Bool
 | .nil=>true
 | .op _ o r=> !o.mutes&&gentle r
 | .lbox _ _ _ _ | .lnew _ _ _ | .st _ _ _ _ _=>false
 | .logic _ _ i _ _ r=>gentle i&&gentle r
section
variable{R:Type}(n:Nat)(md:FuncId->List RM)(call:YCallT)
def inN(d:Option Nat):Bool:=match d with
 |some d=>decide (d<n)
 |none=>true
def yrunOps{R:Type}:Ops->List Rf->Z->(Z->Option R)->Option R
 | .nil,rs,z,K=>K z
 | .op d o r,rs,z,K=>if inN n d=true/\okChk z rs o=true then evalY md call z o.core fun t z'=>yrunOps r (noteR z d o rs) (z'.putO d t) K else none
 | .lbox m p x r,rs,z,K=>ypart z m x fun cs z'=>if cs.length=m/\p<n then yrunOps r (noteK [p] rs) (z'.loc p cs) K else none
 | .lnew p c r,rs,z,K=>if p<n then z.zeros c fun cs z'=>yrunOps r (noteK [p] rs) (z'.loc p cs) K else none
 | .st hp m a x r,rs,z,K=>yst z hp m a x fun z'=>yrunOps r (match hp with
  |some _=>rs
  |none=>rs.filter fun f=>f.safe (touch z (.stH m a x))) z' K
 | .logic and c inner keep d r,rs,z,K=>if gentle inner=true/\d<n/\(dsts inner).all (fun p=>decide (p<n))=true then(ylB z (.t c)).bind fun b=>
  (if b=and then yrunOps inner rs z (fun z'=>ylB z' keep)else some b).bind fun q=>yrunOps r (noteK (d::dsts inner) rs) ((Z.kill (dsts inner) z).put d (.val (.c (.bool q)))) K else none
end
structure Cn where
 keys:List (Nat×Nat×Nat×Nat)
 obs:List Ob
 bad:Bool
def Cn.find(k lo n:Nat):List (Nat×Nat×Nat×Nat)->Option (Option Nat)
 | []=>none
 |(k',lo',n',i)::r=>if k'=k then(if lo'=lo/\n'=n then some (some i)else some none)else Cn.find k lo n r
def canonC(o:Nat->Ob):Cn->List Oc->List Oc×Cn
 |cn,[]=>([],cn)
 |cn, .u x::cs=>let r:=canonC o cn cs;(.u x::r.1,r.2)
 |cn, .h k::cs=>match o k with
  | .fz u=>let r:=canonC o cn cs;(.u u::r.1,r.2)
  | .sl s=>match Cn.find k 0 0 cn.keys with
   |some (some i)=>let r:=canonC o cn cs;(.h (base+i)::r.1,r.2)
   |some none=>let r:=canonC o ⟨cn.keys,cn.obs,true⟩ cs;(.u (.c .junk)::r.1,r.2)
   |none=>let r:=canonC o ⟨(k,0,0,cn.obs.length)::cn.keys,cn.obs++[.sl s],cn.bad⟩ cs;(.h (base+cn.obs.length)::r.1,r.2)
  | .oa v=>match Cn.find k 0 0 cn.keys with
   |some (some i)=>let r:=canonC o cn cs;(.h (base+i)::r.1,r.2)
   |some none=>let r:=canonC o ⟨cn.keys,cn.obs,true⟩ cs;(.u (.c .junk)::r.1,r.2)
   |none=>let r:=canonC o ⟨(k,0,0,cn.obs.length)::cn.keys,cn.obs++[.oa v],cn.bad⟩ cs;(.h (base+cn.obs.length)::r.1,r.2)
  |_=>let r:=canonC o ⟨cn.keys,cn.obs,true⟩ cs;(.u (.c .junk)::r.1,r.2)
def canonY(o:Nat->Ob)(cn:Cn):Y->Y×Cn
 | .h k=>match o k with
  | .none=>(.poison,cn)
  | .fz u=>(.val u,cn)
  | .sl s=>match Cn.find k 0 0 cn.keys with
   |some (some i)=>(.h (base+i),cn)
   |some none=>(.poison,cn)
   |none=>(.h (base+cn.obs.length),⟨(k,0,0,cn.obs.length)::cn.keys,cn.obs++[.sl s],cn.bad⟩)
  | .oa v=>match Cn.find k 0 0 cn.keys with
   |some (some i)=>(.h (base+i),cn)
   |some none=>(.poison,cn)
   |none=>(.h (base+cn.obs.length),⟨(k,0,0,cn.obs.length)::cn.keys,cn.obs++[.oa v],cn.bad⟩)
  | .ob cs=>match Cn.find k 0 0 cn.keys with
   |some (some i)=>(.h (base+i),cn)
   |some none=>(.poison,cn)
   |none=>let r:=canonC o ⟨(k,0,0,cn.obs.length)::cn.keys,cn.obs++[.none],cn.bad⟩ cs
    (.h (base+cn.obs.length),⟨r.2.keys,r.2.obs.set cn.obs.length (.ob r.1),r.2.bad⟩)
 | .w k lo n=>match o k with
  | .sl s=>match Cn.find k lo (n+1) cn.keys with
   |some (some i)=>(.h (base+i),cn)
   |some none=>(.poison,cn)
   |none=>(.h (base+cn.obs.length),⟨(k,lo,n+1,cn.obs.length)::cn.keys,cn.obs++[.sl (s.win lo n)],cn.bad⟩)
  |_=>(.poison,cn)
 | .agg cs=>let r:=canonC o cn cs;(.agg r.1,r.2)
 | .loc cs=>let r:=canonC o cn cs;(.loc r.1,r.2)
 | .oaddr k c=>match o k with
  | .fz (.ref v p)=>(.val (.ref v (p+c)),cn)
  |_=>(.poison,cn)
 | .eaddr _ _ _=>(.poison,cn)
 |y=>(y,cn)
def canonS(z:Z):List Nat->Cn->List Y×Cn
 | [],cn=>([],cn)
 |p::ps,cn=>let r:=canonY z.o cn (z.s p);let q:=canonS z ps r.2;(r.1::q.1,q.2)
abbrev YRunL:=Nat->List Y->List Ob->YRs
def yjump(n:Nat)(run:YRunL)(l:Nat)(dead:List Nat)(z:Z):YRs:=
 let r:=canonS (Z.kill dead z) (List.range n) ⟨[],[],false⟩
 if r.2.bad=true then none else run l r.1 r.2.obs
def Z.of(e:List Y)(obs:List Ob):Z:=⟨fun p=>e.getD p .poison,fun k=>if base<=k then obs.getD (k - base) .none else .none,0⟩
abbrev YKT:=Flow->Z->YRs
def Z.clean(ks ts:List Nat)(z:Z):Z:=⟨fun q=>if ks.contains q then .poison else match z.s q with
 | .addr r c=>if ks.contains r||ts.contains r then .poison else .addr r c
 | .loc cs=>if ts.contains q then .poison else .loc cs
 |y=>y,z.o,z.n⟩
section
variable(n:Nat)(md:FuncId->List RM)(call:YCallT)(run:YRunL)(fin:Z->YRs)
def yjoinK(j:Option (Nat×List Nat))(K:YKT):YKT:=
 match j with
 |none=>K
 |some (l,dead)=>fun fl z=>match fl with
  | .normal=>yjump n run l dead z
  | .exit id=>K (.exit id) z
def yloopK(l:Nat)(dead:List Nat)(K:YKT):YKT:=fun fl z=>match fl with
 | .normal=>yjump n run l dead z
 | .exit id=>K (.exit id) z
def yblockK(id:Nat)(K:YKT):YKT:=fun fl z=>match fl with
 | .normal=>K .normal z
 | .exit i=>if i=id then K .normal z else K (.exit i) z
def yseqK(g:Z->YRs)(K:YKT):YKT:=fun fl z=>match fl with
 | .normal=>g z
 | .exit id=>K (.exit id) z
def yexec:RC->Z->YKT->YRs
 | .skip,z,K=>K .normal z
 | .ops o,z,K=>yrunOps n md call o [] z fun z'=>K .normal z'
 | .dops _ ks ts o,z,K=>if(ks++ts).all (fun p=>decide (p<n))=true then yrunOps n md call o [] (z.clean ks ts) fun z'=>K .normal z' else none
 | .seq a b,z,K=>yexec a z (yseqK (fun z'=>yexec b z' K) K)
 | .cond x a b j,z,K=>(ylB z x).bind fun c=>if c=true then yexec a z (yjoinK n run j K)else yexec b z (yjoinK n run j K)
 | .block id c,z,K=>yexec c z (yblockK id K)
 | .loop l dead _,z,_=>yjump n run l dead z
 | .exit id,z,K=>K (.exit id) z
 | .ret,z,_=>fin z
 | .stuck,_,_=>none
def yfind(l:Nat):RC->YKT->Option (Z->YRs)
 | .seq a b,K=>(yfind l a (yseqK (fun z'=>yexec n md call run fin b z' K) K))<|>yfind l b K
 | .cond _ a b j,K=>if(j.map (·.1))=some l then some (K .normal)else yfind l a (yjoinK n run j K)<|>yfind l b (yjoinK n run j K)
 | .block id c,K=>yfind l c (yblockK id K)
 | .loop l' dead c,K=>if l'=l then some fun z=>yexec n md call run fin c z (yloopK n run l' dead K)else yfind l c (yloopK n run l' dead K)
 |_,_=>none
end
def scals:List U->Bool
 | []=>true
 |u::us=>u.scal&&scals us
def ymode(z:Z)(m:RM)(y:Y)(K:Rz->YRs):YRs:=
 let sl:Option Sx:=match y with
  | .h k=>match z.o k with
   | .sl s=>some s
   |_=>none
  | .val u=>if u.isNilSl=true then some .nil else none
  |_=>none
 let u:Option U:=match y with
  | .val u=>some u
  | .h k=>z.lk k
  |_=>none
 match m with
 | .sl=>sl.bind fun s=>K (.sl s)
 | .sls=>sl.bind fun s=>if scals s.es=true then K (.sl s)else none
 | .sc=>u.bind fun u=>if u.scal=true then K (.val u)else none
 | .va=>u.bind fun u=>K (.val u)
def yres1(z:Z)(r:Res)(K:Y->YRs):YRs:=
 match r with
 | .t p=>match z.s p with
  | .h k=>K (.h k)
  |_=>(yl z (.t p)).bind fun u=>K (.val u)
 | .cell1 a=>yptr z (.t a) (fun q c=>match z.s q with
   | .loc cs=>ldC z cs c .c fun y _=>K y
   |_=>none) (fun k c=>match z.o k with
   | .ob cs=>ldC z cs c .c fun y _=>K y
   |_=>none) (fun _ _ _=>none) (fun v o=>(v.cell o).bind fun u=>K (.val u))
 | .cells a n=>yptr z (.t a) (fun q c=>match z.s q with
   | .loc cs=>if c+n<=cs.length then(z.lkC ((cs.drop c).take n)).bind fun us=>K (.val (.st us))else none
   |_=>none) (fun k c=>match z.o k with
   | .ob cs=>if c+n<=cs.length then(z.lkC ((cs.drop c).take n)).bind fun us=>K (.val (.st us))else none
   | .oa v=>(v.part c n).bind fun u=>K (.val u)
   |_=>none) (fun _ _ _=>none) (fun v o=>(v.part o n).bind fun u=>K (.val u))
def yresAll(z:Z):List Res->List RM->(List U->YRs)->YRs
 | [],[],K=>K []
 |r::rs,m::ms,K=>yres1 z r fun y=>ymode z m y fun y=>y.toU.bind fun u=>yresAll z rs ms fun us=>K (u::us)
 |_,_,_=>none
def yfinish(ms:List RM)(rf:RFunc)(z:Z):YRs:=match rf.res,ms with
 | [r],[m]=>yres1 z r fun y=>ymode z m y some
 |rs,ms=>yresAll z rs ms fun us=>some (.tup us)
def yendK(ms:List RM)(rf:RFunc):YKT:=fun fl z=>match fl with
 | .normal=>yfinish ms rf z
 | .exit _=>none
abbrev YRunT:=FuncId->YRunL
def ycallOf(run:YRunT):YCallT:=fun f us=>run f 0 (us.map .val) []
def toUs:List Y->Option (List U)
 | []=>some []
 | .val u::ys=>(toUs ys).bind fun us=>some (u::us)
 |_=>none
def ystepR(ext:YCallT)(prog:FuncId->Option RFunc)(md:FuncId->List RM)(run:YRunT):YRunT:=fun f l e obs=>
 match prog f with
 |none=>if l=0 then(toUs e).bind (ext f)else none
 |some rf=>
  if l=0 then yexec rf.ntmps md (ycallOf run) (run f) (yfinish (md f) rf) rf.body (Z.of e obs) (yendK (md f) rf)
  else match yfind rf.ntmps md (ycallOf run) (run f) (yfinish (md f) rf) l rf.body (yendK (md f) rf)with
   |some g=>g (Z.of e obs)
   |none=>none
def yrunN(ext:YCallT)(prog:FuncId->Option RFunc)(md:FuncId->List RM):Nat->YRunT
 | 0=>fun _ _ _ _=>none
 |k+1=>ystepR ext prog md (yrunN ext prog md k)
open Classical in
noncomputable def yrun(ext:YCallT)(prog:FuncId->Option RFunc)(md:FuncId->List RM):YRunT:=fun f l e obs=>
 if h: ∃k,(yrunN ext prog md k f l e obs).isSome then yrunN ext prog md h.choose f l e obs else none
section
variable{R:Type}
theorem k0Y(kd:K0)(x:U){K:Nat->U->Option R}{K':U->Option R}(hK: ∀x,Apx (fun k=>K k x) (K' x)):Apx (fun k=>x.take0 kd (K k)) (x.take0 kd K'):=by
 cases kd<;>simp only[U.take0]<;>first |exact hK _ |exact .cbind fun _=>hK _
theorem j1B(kd:KD)(v:U){K:Nat->U->Option R}{K':U->Option R}(hK: ∀x,Apx (fun k=>K k x) (K' x)):Apx (fun k=>v.take kd (K k)) (v.take kd K'):=by
 cases kd with
 |any=>exact hK _
 |one k=>cases k<;>simp only[U.take]<;>first |exact .cbind fun _=>hK _ |exact k0Y _ _ hK
 |agg ks=>exact .cbind fun _=>hK _
theorem j1C(z:Z)(b:Ob){K:Nat->Y->Z->Option R}{K':Y->Z->Option R}(hK: ∀t z,Apx (fun k=>K k t z) (K' t z)):Apx (fun k=>z.new b (K k)) (z.new b K'):=by
 unfold Z.new
 exact .ite (hK _ _) (.const _)
theorem k0C: ∀(cs:List C) (z:Z) {K:Nat->List Oc->Z->Option R} {K':List Oc->Z->Option R} (hK: ∀t z,Apx (fun k=>K k t z) (K' t z)),Apx (fun k=>z.zeros cs (K k)) (z.zeros cs K')
 | [],z,_,_,hK=>hK _ _
 |c::cs,z,_,_,hK=>by
  cases c
  case nilSlice=>exact j1C _ _ fun _ _=>k0C cs _ fun _ _=>hK _ _
  all_goals exact .cbind fun _=>k0C cs _ fun _ _=>hK _ _
theorem J0F(z:Z)(x:X){Kl Ko:Nat->Nat->Nat->Option R}{Kl' Ko':Nat->Nat->Option R}{Ke:Nat->Nat->Nat->Nat->Option R}{Ke':Nat->Nat->Nat->Option R}{Kf:Nat->U->Nat->Option R}{Kf':U->Nat->Option R}
  (hl: ∀q j,Apx (fun k=>Kl k q j) (Kl' q j)) (ho: ∀q j,Apx (fun k=>Ko k q j) (Ko' q j)) (he: ∀q j i,Apx (fun k=>Ke k q j i) (Ke' q j i)) (hf: ∀v o,Apx (fun k=>Kf k v o) (Kf' v o)):Apx (fun k=>yptr z x (Kl k) (Ko k) (Ke k) (Kf k)) (yptr z x Kl' Ko' Ke' Kf'):=by
 unfold yptr
 split
 ·split<;>first |exact hl _ _ |exact .cbind fun _=>hf _ _ |exact .const _ |(split<;>first |exact hl _ _ |exact ho _ _ |exact he _ _ _ |exact .cbind fun _=>hf _ _ |exact .const _)
 ·exact .const _
theorem J1a(z:Z)(x:X){Ko:Nat->Nat->Sx->Option R}{Ko':Nat->Sx->Option R}{Kf:Nat->U->Option R}{Kf':U->Option R}
  (ho: ∀q s,Apx (fun k=>Ko k q s) (Ko' q s)) (hf: ∀v,Apx (fun k=>Kf k v) (Kf' v)):Apx (fun k=>ysl z x (Ko k) (Kf k)) (ysl z x Ko' Kf'):=by
 unfold ysl
 split
 ·split<;>first |exact hf _ |exact .const _ |(split<;>first |exact ho _ _ |exact hf _ |exact .const _)
 ·exact .cbind fun _=>hf _
theorem J1b(z:Z)(cs:List Oc)(j:Nat)(kd:K0){K:Nat->Y->Z->Option R}{K':Y->Z->Option R}(hK: ∀t z,Apx (fun k=>K k t z) (K' t z)):Apx (fun k=>ldC z cs j kd (K k)) (ldC z cs j kd K'):=by
 unfold ldC
 refine .cbind fun c=> ?_
 split
 ·exact k0Y _ _ fun _=>hK _ _
 ·split<;>first |exact hK _ _ |exact .const _
theorem k1K(z:Z)(cs:List Oc)(j n:Nat)(chk:List U->Bool){K:Nat->Y->Z->Option R}{K':Y->Z->Option R}(hK: ∀t z,Apx (fun k=>K k t z) (K' t z)):Apx (fun k=>ldsC z cs j n chk (K k)) (ldsC z cs j n chk K'):=by
 unfold ldsC
 exact .ite (.cbind fun _=> .ite (.cbind fun _=>hK _ _) (.const _)) (.const _)
theorem J1c(z:Z)(q j:Nat){K:Nat->U->Option R}{K':U->Option R}(hK: ∀u,Apx (fun k=>K k u) (K' u)):Apx (fun k=>ldE z q j (K k)) (ldE z q j K'):=by
 unfold ldE
 split<;>first |exact .cbind fun _=>hK _ |exact .const _
theorem j1D(n:Nat)(u:U){K:Nat->List Oc->Option R}{K':List Oc->Option R}(hK: ∀t,Apx (fun k=>K k t) (K' t)):Apx (fun k=>ucs n u (K k)) (ucs n u K'):=by
 unfold ucs
 exact .ite (.cbind fun _=>hK _) (.cbind fun _=>hK _)
theorem k0D(z:Z)(n:Nat)(x:X){K:Nat->List Oc->Z->Option R}{K':List Oc->Z->Option R}(hK: ∀t z,Apx (fun k=>K k t z) (K' t z)):Apx (fun k=>ypart z n x (K k)) (ypart z n x K'):=by
 unfold ypart
 split
 ·split
  ·split<;>first |exact hK _ _ |exact .const _
  ·exact hK _ _
  ·exact .cbind fun _=>j1D _ _ fun _=>hK _ _
 ·exact .cbind fun _=>j1D _ _ fun _=>hK _ _
theorem Z0D: ∀(ps:List (Nat×Nat×X)) (z:Z) (c:List Oc) {K:Nat->List Oc->Z->Option R} {K':List Oc->Z->Option R} (hK: ∀t z,Apx (fun k=>K k t z) (K' t z)),Apx (fun k=>yfill z c ps (K k)) (yfill z c ps K')
 | [],z,c,_,_,hK=>hK _ _
 |(o,n,x)::ps,z,c,_,_,hK=>k0D _ _ _ fun _ _=> .ite (Z0D ps _ _ hK) (.const _)
theorem X0v: ∀(ps:List (Nat×Nat×X)) (z:Z) (o m:Nat) {K:Nat->List U->Z->Option R} {K':List U->Z->Option R} (hK: ∀t z,Apx (fun k=>K k t z) (K' t z)),Apx (fun k=>ybig z o m ps (K k)) (ybig z o m ps K')
 | [],z,o,m,_,_,hK=> .ite (hK _ _) (.const _)
 |(o',n,x)::ps,z,o,m,_,_,hK=> .cbind fun _=> .ite (.ite (X0v ps _ _ _ fun _ _=>hK _ _) (.const _)) (.const _)
theorem Q0I(sz:Nat): ∀(ps:List (Nat×Nat×X)) (z:Z) (c:List U) {K:Nat->List U->Z->Option R} {K':List U->Z->Option R} (hK: ∀t z,Apx (fun k=>K k t z) (K' t z)),Apx (fun k=>yelems sz z c ps (K k)) (yelems sz z c ps K')
 | [],z,c,_,_,hK=>hK _ _
 |(o,n,x)::ps,z,c,_,_,hK=> .cbind fun _=> .ite (.ite (Q0I sz ps _ _ hK) (.const _)) (.const _)
theorem X0w: ∀(us:List U) {K:Nat->List U->Option R} {K':List U->Option R} (hK: ∀t,Apx (fun k=>K k t) (K' t)),Apx (fun k=>onesK us (K k)) (onesK us K')
 | [],_,_,hK=>hK _
 |u::us,_,_,hK=> .cbind fun _=>X0w us fun _=>hK _
theorem j1E(z:Z)(hp:Option Nat)(n:Nat)(a x:X){K:Nat->Z->Option R}{K':Z->Option R}(hK: ∀z,Apx (fun k=>K k z) (K' z)):Apx (fun k=>yst z hp n a x (K k)) (yst z hp n a x K'):=by
 unfold yst
 refine .ite (.cbind fun r=>J0F _ _ (fun _ _=> .const _) (fun q j=> ?_) (fun _ _ _=> .const _) fun _ _=> .const _) ?_
 ·split<;>first |exact .ite (.ite (hK _) (.const _)) (.const _) |exact .const _
 refine k0D _ _ _ fun r1 z'=> .ite (.const _) (J0F _ _ (fun q j=> ?_) (fun q j=> ?_) (fun q j i=> ?_) fun _ _=> .const _)
 ·split<;>first |exact .ite (hK _) (.const _) |exact .const _
 ·split
  ·exact .ite (hK _) (.const _)
  ·split<;>first |exact .ite (.cbind fun _=>hK _) (.const _) |exact .const _
  ·exact .const _
 ·refine .ite (.cbind fun _=> .cbind fun _=> ?_) (.const _)
  split<;>first |exact .cbind fun _=>hK _ |exact .const _
end
section
variable{R:Type}{n:Nat}{md:FuncId->List RM}{call:Nat->YCallT}{call':YCallT}(hcall: ∀f vs,Apx (fun k=>call k f vs) (call' f vs))
include hcall
theorem J1d(z:Z)(o:ROp){K:Nat->Y->Z->Option R}{K':Y->Z->Option R}(hK: ∀t z,Apx (fun k=>K k t z) (K' t z)):Apx (fun k=>evalY md (call k) z o (K k)) (evalY md call' z o K'):=by
 cases o<;>simp only[evalY]<;>
  repeat' first
  |exact hK _ _
  |exact Apx.const _
  |refine Apx.ite ?_ ?_
  |refine Apx.bind (hcall _ _) fun _=> ?_
  |refine Apx.cbind fun _=> ?_
  |(refine k0Y _ _ ?_;intro _)
  |(refine j1B _ _ ?_;intro _)
  |(refine j1C _ _ ?_;intro _ _)
  |(refine X0w _ ?_;intro _)
  |(refine k0C _ _ ?_;intro _ _)
  |(refine k0D _ _ _ ?_;intro _ _)
  |(refine Z0D _ _ _ ?_;intro _ _)
  |(refine X0v _ _ _ _ ?_;intro _ _)
  |(refine Q0I _ _ _ _ ?_;intro _ _)
  |(refine J1b _ _ _ _ ?_;intro _ _)
  |(refine k1K _ _ _ _ _ ?_;intro _ _)
  |(refine J1c _ _ _ ?_;intro _)
  |(refine j1E _ _ _ _ _ ?_;intro _)
  |refine J0F _ _ (fun _ _=> ?_) (fun _ _=> ?_) (fun _ _ _=> ?_) (fun _ _=> ?_)
  |refine J1a _ _ (fun _ _=> ?_) (fun _=> ?_)
  |split
theorem j0J: ∀(o:Ops) (rs:List Rf) {R:Type} (z:Z) {K:Nat->Z->Option R} {K':Z->Option R} (_: ∀z,Apx (fun k=>K k z) (K' z)),Apx (fun k=>yrunOps n md (call k) o rs z (K k)) (yrunOps n md call' o rs z K')
 | .nil,rs,_,z,_,_,hK=>hK _
 | .op d o r,rs,_,z,_,_,hK=>by
  simp only[yrunOps]
  exact .ite (J1d hcall z o.core fun t e'=>j0J r _ _ hK) (.const _)
 | .lbox m p x r,rs,_,z,_,_,hK=>by
  simp only[yrunOps]
  exact k0D _ _ _ fun _ _=> .ite (j0J r _ _ hK) (.const _)
 | .lnew p c r,rs,_,z,_,_,hK=>by
  simp only[yrunOps]
  exact .ite (k0C _ _ fun _ _=>j0J r _ _ hK) (.const _)
 | .st hp m a x r,rs,_,z,_,_,hK=>by
  simp only[yrunOps]
  exact j1E _ _ _ _ _ fun _=>j0J r _ _ hK
 | .logic and c inner keep d r,rs,_,z,_,_,hK=>by
  simp only[yrunOps]
  exact .ite (.cbind fun b=> .bind (.ite (j0J inner _ _ fun _=> .const _) (.const _)) fun _=>j0J r _ _ hK) (.const _)
end
section
variable{n:Nat}{md:FuncId->List RM}{call:Nat->YCallT}{call':YCallT}{run:Nat->YRunL}{run':YRunL}{fin:Z->YRs}
 (hcall: ∀f vs,Apx (fun k=>call k f vs) (call' f vs)) (hrun: ∀l e obs,Apx (fun k=>run k l e obs) (run' l e obs))
theorem w0Z(hrun: ∀l e obs,Apx (fun k=>run k l e obs) (run' l e obs))(l:Nat)(dead:List Nat)(z:Z):Apx (fun k=>yjump n (run k) l dead z) (yjump n run' l dead z):=Apx.ite (.const _) (hrun _ _ _)
theorem k0E(hrun: ∀l e obs,Apx (fun k=>run k l e obs) (run' l e obs))(j:Option (Nat×List Nat)){K:Nat->YKT}{K':YKT}(hK: ∀fl z,Apx (fun k=>K k fl z) (K' fl z))(fl:Flow)(z:Z):
  Apx (fun k=>yjoinK n (run k) j (K k) fl z) (yjoinK n run' j K' fl z):=by
 cases j with
 |none=>exact hK _ _
 |some x=>
  cases fl with
  |normal=>exact w0Z hrun _ _ _
  |exit id=>exact hK _ _
theorem Z0E(hrun: ∀l e obs,Apx (fun k=>run k l e obs) (run' l e obs))(l:Nat)(dead:List Nat){K:Nat->YKT}{K':YKT}(hK: ∀fl z,Apx (fun k=>K k fl z) (K' fl z))(fl:Flow)(z:Z):
  Apx (fun k=>yloopK n (run k) l dead (K k) fl z) (yloopK n run' l dead K' fl z):=by
 cases fl with
 |normal=>exact w0Z hrun _ _ _
 |exit id=>exact hK _ _
theorem Q0J(id:Nat){K:Nat->YKT}{K':YKT}(hK: ∀fl z,Apx (fun k=>K k fl z) (K' fl z))(fl:Flow)(z:Z):
  Apx (fun k=>yblockK id (K k) fl z) (yblockK id K' fl z):=by
 cases fl with
 |normal=>exact hK _ _
 |exit i=>exact Apx.ite (hK _ _) (hK _ _)
include hcall hrun
theorem j0o: ∀(c:RC) (z:Z) {K:Nat->YKT} {K':YKT} (_: ∀fl z,Apx (fun k=>K k fl z) (K' fl z)),
  Apx (fun k=>yexec n md (call k) (run k) fin c z (K k)) (yexec n md call' run' fin c z K')
 | .skip,z,_,_,hK=>hK _ _
 | .ops o,z,_,_,hK=>by simp only[yexec];exact j0J hcall o [] z fun z=>hK _ _
 | .dops _ _ _ o,z,_,_,hK=>by simp only[yexec];exact .ite (j0J hcall o [] _ fun z=>hK _ _) (.const _)
 | .seq a b,z,_,_,hK=>by
  simp only[yexec]
  refine j0o a z fun fl z'=> ?_
  cases fl with
  |normal=>exact j0o b z' hK
  |exit id=>exact hK _ _
 | .cond x a b j,z,_,_,hK=>by
  simp only[yexec]
  exact .cbind fun c=> .ite (j0o a _ (k0E hrun j hK)) (j0o b _ (k0E hrun j hK))
 | .block id c,z,_,_,hK=>by simp only[yexec];exact j0o c _ (Q0J id hK)
 | .loop l dead c,z,_,_,hK=>by simp only[yexec];exact w0Z hrun _ _ _
 | .exit id,z,_,_,hK=>hK _ _
 | .ret,z,_,_,hK=>by simp only[yexec];exact .const _
 | .stuck,z,_,_,hK=>by simp only[yexec];exact .const _
theorem j0C(l:Nat): ∀(c:RC) {K:Nat->YKT} {K':YKT} (_: ∀fl z,Apx (fun k=>K k fl z) (K' fl z)),
  (∃(g:Nat->Z->YRs) (g':Z->YRs),(∀k,yfind n md (call k) (run k) fin l c (K k)=some (g k))/\yfind n md call' run' fin l c K'=some g'/\ ∀z,Apx (fun k=>g k z) (g' z))\/
  ((∀k,yfind n md (call k) (run k) fin l c (K k)=none)/\yfind n md call' run' fin l c K'=none)
 | .skip,_,_,hK=> .inr ⟨fun _=>rfl,rfl⟩
 | .ops o,_,_,hK=> .inr ⟨fun _=>rfl,rfl⟩
 | .dops _ _ _ o,_,_,hK=> .inr ⟨fun _=>rfl,rfl⟩
 | .exit id,_,_,hK=> .inr ⟨fun _=>rfl,rfl⟩
 | .ret,_,_,hK=> .inr ⟨fun _=>rfl,rfl⟩
 | .stuck,_,_,hK=> .inr ⟨fun _=>rfl,rfl⟩
 | .seq a b,K,K',hK=>by
  have ha:=j0C l a (K:=fun k=>yseqK (fun z'=>yexec n md (call k) (run k) fin b z' (K k)) (K k))
   (K':=yseqK (fun z'=>yexec n md call' run' fin b z' K') K')
   (fun fl z=>by
    cases fl with
    |normal=>exact j0o hcall hrun b z hK
    |exit id=>exact hK _ _)
  simp only[yfind]
  rcases ha with⟨g,g',h1,h2,h3⟩ |⟨h1,h2⟩
  ·exact .inl ⟨g,g',fun k=>by rw[h1];rfl,by rw[h2];rfl,h3⟩
  ·rcases j0C l b hK with⟨g,g',h3,h4,h5⟩ |⟨h3,h4⟩
   ·exact .inl ⟨g,g',fun k=>by rw[h1,h3];rfl,by rw[h2,h4];rfl,h5⟩
   ·exact .inr ⟨fun k=>by rw[h1,h3];rfl,by rw[h2,h4];rfl⟩
 | .cond _ a b j,K,K',hK=>by
  simp only[yfind]
  by_cases hj:j.map (·.1)=some l
  ·simp only[hj,iT]
   exact .inl ⟨_,_,fun k=>rfl,rfl,fun z=>hK _ _⟩
  ·simp only[hj,iF]
   rcases j0C l a (k0E hrun j hK)with⟨g,g',h1,h2,h3⟩ |⟨h1,h2⟩
   ·exact .inl ⟨g,g',fun k=>by rw[h1];rfl,by rw[h2];rfl,h3⟩
   ·rcases j0C l b (k0E hrun j hK)with⟨g,g',h3,h4,h5⟩ |⟨h3,h4⟩
    ·exact .inl ⟨g,g',fun k=>by rw[h1,h3];rfl,by rw[h2,h4];rfl,h5⟩
    ·exact .inr ⟨fun k=>by rw[h1,h3];rfl,by rw[h2,h4];rfl⟩
 | .block id c,K,K',hK=>by simp only[yfind];exact j0C l c (Q0J id hK)
 | .loop l' dead c,K,K',hK=>by
  simp only[yfind]
  by_cases hl:l'=l
  ·simp only[hl,iT]
   exact .inl ⟨_,_,fun k=>rfl,rfl,fun z=>j0o hcall hrun c _ (Z0E hrun l dead hK)⟩
  ·simp only[hl,iF]
   exact j0C l c (Z0E hrun l' dead hK)
end
theorem Z0F(ext:YCallT)(prog:FuncId->Option RFunc)(md:FuncId->List RM){r:Nat->YRunT}{r':YRunT}(h: ∀f l e obs,Apx (fun k=>r k f l e obs) (r' f l e obs))(f l:Nat)(e:List Y)(obs:List Ob):
  Apx (fun k=>ystepR ext prog md (r k) f l e obs) (ystepR ext prog md r' f l e obs):=by
 unfold ystepR
 cases prog f with
 |none=>exact .const _
 |some rf=>
  have hc: ∀f vs,Apx (fun k=>ycallOf (r k) f vs) (ycallOf r' f vs):=fun f vs=>h _ _ _ _
  have hK: ∀(fl:Flow) (z:Z),Apx (fun _:Nat=>yendK (md f) rf fl z) (yendK (md f) rf fl z):=fun _ _=> .const _
  by_cases hl:l=0
  ·simp only[hl,iT]
   exact j0o hc (h f) _ _ hK
  ·simp only[hl,iF]
   rcases j0C (n:=rf.ntmps) (md:=md) (fin:=yfinish (md f) rf) hc (h f) l rf.body hK with⟨g,g',h1,h2,h3⟩ |⟨h1,h2⟩
   ·rw[h2]
    refine⟨fun k x hx=> ?_,fun k x hx=> ?_,fun x hx=> ?_⟩
    ·simp only[h1]at hx⊢;exact(h3 _).up k x hx
    ·simp only[h1]at hx;exact(h3 _).hi k x hx
    ·obtain⟨k,hk⟩:=(h3 _).ex x hx
     exact⟨k,by simp only[h1];exact hk⟩
   ·rw[h2]
    refine⟨fun k x hx=> ?_,fun k x hx=> ?_,fun x hx=> ?_⟩
    ·simp only[h1]at hx;cases hx
    ·simp only[h1]at hx;cases hx
    ·cases hx
theorem J0G(ext:YCallT)(prog:FuncId->Option RFunc)(md:FuncId->List RM): ∀(k:Nat) (f l:Nat) (e:List Y) (obs:List Ob) (x:Rz),yrunN ext prog md k f l e obs=some x->yrunN ext prog md (k+1) f l e obs=some x
 | 0,_,_,_,_,_,h=>by simp[yrunN]at h
 |k+1,f,l,e,obs,x,h=>by
  have h2: ∀f l e obs,Apx (fun j=>(if j=0 then yrunN ext prog md k else yrunN ext prog md (k+1)) f l e obs) (yrunN ext prog md (k+1) f l e obs):=fun f l e obs=>by
   have:=Apx.two (J0G ext prog md k f l e obs)
   refine⟨fun j y hy=> ?_,fun j y hy=> ?_,fun y hy=>⟨1,by simpa using hy⟩⟩
   ·have:=this.up j y (by by_cases hj:j=0<;>simp_all)
    by_cases hj:j=0<;>simp_all
   ·exact this.hi j y (by by_cases hj:j=0<;>simp_all)
  have:=(Z0F ext prog md h2 f l e obs).hi 0 x (by simpa[yrunN]using h)
  simpa[yrunN]using this
theorem X0x(ext:YCallT)(prog:FuncId->Option RFunc)(md:FuncId->List RM)(f l:Nat)(e:List Y)(obs:List Ob):Apx (fun k=>yrunN ext prog md k f l e obs) (yrun ext prog md f l e obs):=by
 have hle: ∀(k m:Nat) x,k<=m->yrunN ext prog md k f l e obs=some x->yrunN ext prog md m f l e obs=some x:=by
  intro k m x hkm hx
  obtain⟨j,rfl⟩:=Nat.exists_eq_add_of_le hkm
  clear hkm
  induction j with
  |zero=>exact hx
  |succ j ih=>exact J0G ext prog md _ _ _ _ _ _ ih
 refine⟨fun k x hx=>J0G ext prog md k f l e obs x hx,fun k x hx=> ?_,fun x hx=> ?_⟩
 ·have he: ∃k,(yrunN ext prog md k f l e obs).isSome:=⟨k,by simp[hx]⟩
  unfold yrun
  rw[dif_pos he]
  obtain⟨y,hy⟩:=Option.isSome_iff_exists.1 he.choose_spec
  rw[hy]
  have h1:=hle _ _ _ (Nat.le_max_left k he.choose) hx
  have h2:=hle _ _ _ (Nat.le_max_right k he.choose) hy
  rw[h1]at h2
  exact h2.symm
 ·unfold yrun at hx
  split at hx
  ·exact⟨_,hx⟩
  ·cases hx
theorem K0o(ext:YCallT)(prog:FuncId->Option RFunc)(md:FuncId->List RM)(f l:Nat)(e:List Y)(obs:List Ob):yrun ext prog md f l e obs=ystepR ext prog md (yrun ext prog md) f l e obs:=by
 have h:=Z0F ext prog md (r:=yrunN ext prog md) (X0x ext prog md) f l e obs
 exact(X0x ext prog md f l e obs).shift.unique h
mutual
def UC(H:Heap)(F:Nat->Prop):U->List C->Prop
 | .c x,xs=>x.flat=true/\xs=[x]
 | .st us,xs=>UCs H F us xs
 | .sl b es,xs=>(b=false/\es=[]/\xs=[.nilSlice])\/(b=true/\ ∃i o cs sz,xs=[.slice i o es.length]/\F i/\H.get i=some (.cells sz cs)/\o+es.length*sz<=cs.length/\EsR H F es sz ((cs.drop o).take (es.length*sz)))
 | .ref v k,xs=> ∃i o z cs n,xs=[.ptr i (o+k)]/\F i/\H.get i=some (.cells z cs)/\o+n<=cs.length/\UC H F v ((cs.drop o).take n)
 | .fn f a b,xs=> ∃a' b',xs=[.func f a' b']/\UCs H F a a'/\UCs H F b b'
 | .ifc t g cs,xs=> ∃cs',xs=[.iface t g cs']/\UCs H F cs cs'
def UCs(H:Heap)(F:Nat->Prop):List U->List C->Prop
 | [],xs=>xs=[]
 |u::us,xs=> ∃c cs,xs=c::cs/\u.isSt=false/\UC H F u [c]/\UCs H F us cs
def EsR(H:Heap)(F:Nat->Prop):List U->Nat->List C->Prop
 | [],_,xs=>xs=[]
 |e::es,sz,xs=> ∃a b,xs=a++b/\a.length=sz/\UC H F e a/\EsR H F es sz b
end
def UV(H:Heap)(F:Nat->Prop)(u:U):V->Prop
 | .c c=>u.isSt=false/\UC H F u [c]
 | .agg xs=> ∃us,u= .st us/\UCs H F us xs
 | .tuple _=>False
def UVs(H:Heap)(F:Nat->Prop):List U->List V->Prop
 | [],vs=>vs=[]
 |u::us,vs=> ∃v vs',vs=v::vs'/\UV H F u v/\UVs H F us vs'
structure FLe (H:Heap) (F:Nat->Prop) (H':Heap) (F':Nat->Prop):Prop where
 sub: ∀i,F i->F' i
 same: ∀i,F i->H'.get i=H.get i
theorem FLe.refl(H:Heap)(F:Nat->Prop):FLe H F H F:=⟨fun _ h=>h,fun _ _=>rfl⟩
theorem FLe.trans{H H' H'':Heap}{F F' F'':Nat->Prop}(h:FLe H F H' F')(k:FLe H' F' H'' F''):FLe H F H'' F'':=
 ⟨fun i hi=>k.sub i (h.sub i hi),fun i hi=>(k.same i (h.sub i hi)).trans (h.same i hi)⟩
section
variable{H H':Heap}{F F':Nat->Prop}(m:FLe H F H' F')
include m
mutual
theorem UC.mono: ∀{u:U} {xs:List C},UC H F u xs->UC H' F' u xs
 | .c x,xs,h=>h
 | .st us,xs,h=>UCs.mono h
 | .sl b es,xs,h=>h.imp id fun⟨hb,i,o,cs,sz,h1,h2,h3,h4,h5⟩=>⟨hb,i,o,cs,sz,h1,m.sub i h2,by rw[m.same i h2];exact h3,h4,EsR.mono h5⟩
 | .ref v k,xs,⟨i,o,z,cs,n,h1,h2,h3,h4,h5⟩=>⟨i,o,z,cs,n,h1,m.sub i h2,by rw[m.same i h2];exact h3,h4,UC.mono h5⟩
 | .fn f a b,xs,⟨a',b',h1,h2,h3⟩=>⟨a',b',h1,UCs.mono h2,UCs.mono h3⟩
 | .ifc t g cs,xs,⟨cs',h1,h2⟩=>⟨cs',h1,UCs.mono h2⟩
theorem UCs.mono: ∀{us:List U} {xs:List C},UCs H F us xs->UCs H' F' us xs
 | [],xs,h=>h
 |u::us,xs,⟨c,cs,h1,h2,h3,h4⟩=>⟨c,cs,h1,h2,UC.mono h3,UCs.mono h4⟩
theorem EsR.mono: ∀{es:List U} {sz:Nat} {xs:List C},EsR H F es sz xs->EsR H' F' es sz xs
 | [],sz,xs,h=>h
 |e::es,sz,xs,⟨a,b,h1,h2,h3,h4⟩=>⟨a,b,h1,h2,UC.mono h3,EsR.mono h4⟩
end
theorem UV.mono{u:U}: ∀{v:V},UV H F u v->UV H' F' u v
 | .c c,h=>⟨h.1,h.2.mono m⟩
 | .agg xs,⟨us,h1,h2⟩=>⟨us,h1,h2.mono m⟩
theorem UVs.mono: ∀{us:List U} {vs:List V},UVs H F us vs->UVs H' F' us vs
 | [],vs,h=>h
 |u::us,vs,⟨v,vs',h1,h2,h3⟩=>⟨v,vs',h1,h2.mono m,UVs.mono h3⟩
end
section
variable{H:Heap}{F:Nat->Prop}
theorem UC.nst{u:U}{c:C}(h:UC H F u [c])(hs:u.isSt=false):UCs H F [u] [c]:=⟨c,[],rfl,hs,h,rfl⟩
theorem UC.cells{u:U}{xs:List C}(h:UC H F u xs):UCs H F u.cells xs:=by
 have one: ∀{u:U} {c:C},u.isSt=false->UC H F u [c]->UCs H F [u] [c]:=fun hs h=>⟨_,[],rfl,hs,h,rfl⟩
 cases u with
 |st us=>exact h
 |c x=>obtain⟨h1,rfl⟩:=h;exact one rfl ⟨h1,rfl⟩
 |sl b es=>
  rcases h with⟨h1,h2,rfl⟩ |⟨hb,i,o,cs,sz,rfl,h2⟩
  ·exact one rfl (.inl ⟨h1,h2,rfl⟩)
  ·exact one rfl (.inr ⟨hb,i,o,cs,sz,rfl,h2⟩)
 |ref v k=>obtain⟨i,o,z,cs,n,rfl,h2⟩:=h;exact one rfl ⟨i,o,z,cs,n,rfl,h2⟩
 |fn f a b=>obtain⟨a',b',rfl,h2⟩:=h;exact one rfl ⟨a',b',rfl,h2⟩
 |ifc t g cs=>obtain⟨cs',rfl,h2⟩:=h;exact one rfl ⟨cs',rfl,h2⟩
theorem UCs.length: ∀{us:List U} {xs:List C},UCs H F us xs->us.length=xs.length
 | [],xs,h=>by rw[show xs=[]from h];rfl
 |u::us,xs,⟨c,cs,h1,_,_,h4⟩=>by rw[h1];simp[UCs.length h4]
theorem UCs.get: ∀{us:List U} {xs:List C},UCs H F us xs-> ∀{k:Nat} {u:U},us[k]? =some u-> ∃c,xs[k]? =some c/\u.isSt=false/\UC H F u [c]
 | [],xs,h,k,u,hk=>by simp at hk
 |u0::us,xs,⟨c,cs,h1,h2,h3,h4⟩,0,u,hk=>by simp at hk;subst hk;exact⟨c,by rw[h1];rfl,h2,h3⟩
 |u0::us,xs,⟨c,cs,h1,h2,h3,h4⟩,k+1,u,hk=>by
  simp at hk
  obtain⟨d,hd,h5⟩:=UCs.get h4 hk
  exact⟨d,by rw[h1];simpa using hd,h5⟩
theorem UCs.drop: ∀{us:List U} {xs:List C} (n:Nat),UCs H F us xs->UCs H F (us.drop n) (xs.drop n)
 |us,xs,0,h=>h
 | [],xs,n+1,h=>by rw[show xs=[]from h];simp[UCs]
 |u::us,xs,n+1,⟨c,cs,h1,_,_,h4⟩=>by rw[h1];exact UCs.drop n h4
theorem UCs.take: ∀{us:List U} {xs:List C} (n:Nat),UCs H F us xs->UCs H F (us.take n) (xs.take n)
 |us,xs,0,h=>by simp[UCs]
 | [],xs,n+1,h=>by rw[show xs=[]from h];simp[UCs]
 |u::us,xs,n+1,⟨c,cs,h1,h2,h3,h4⟩=>by rw[h1];exact⟨c,cs.take n,rfl,h2,h3,UCs.take n h4⟩
theorem UCs.append: ∀{us vs:List U} {xs ys:List C},UCs H F us xs->UCs H F vs ys->UCs H F (us++vs) (xs++ys)
 | [],vs,xs,ys,h,k=>by rw[show xs=[]from h];exact k
 |u::us,vs,xs,ys,⟨c,cs,h1,h2,h3,h4⟩,k=>by rw[h1];exact⟨c,cs++ys,rfl,h2,h3,UCs.append h4 k⟩
theorem UCs.set: ∀{us:List U} {xs:List C} {k:Nat} {u:U} {c:C},UCs H F us xs->u.isSt=false->UC H F u [c]->UCs H F (us.set k u) (xs.set k c)
 | [],xs,k,u,c,h,_,_=>by rw[show xs=[]from h];simp[UCs]
 |u0::us,xs,0,u,c,⟨c0,cs,h1,h2,h3,h4⟩,hs,hu=>by rw[h1];exact⟨c,cs,rfl,hs,hu,h4⟩
 |u0::us,xs,k+1,u,c,⟨c0,cs,h1,h2,h3,h4⟩,hs,hu=>by rw[h1];exact⟨c0,cs.set k c,rfl,h2,h3,UCs.set h4 hs hu⟩
theorem UC.len{u:U}{xs:List C}(h:UC H F u xs):u.size=xs.length:=h.cells.length
theorem EsR.length: ∀{es:List U} {sz:Nat} {xs:List C},EsR H F es sz xs->xs.length=es.length*sz
 | [],sz,xs,h=>by rw[show xs=[]from h];simp
 |e::es,sz,xs,⟨a,b,h1,h2,_,h4⟩=>by rw[h1];simp[h2,EsR.length h4,Nat.add_mul];omega
theorem EsR.get: ∀{es:List U} {sz:Nat} {xs:List C},EsR H F es sz xs-> ∀{j:Nat} {e:U},es[j]? =some e->UC H F e ((xs.drop (j*sz)).take sz)/\(j+1)*sz<=xs.length
 | [],sz,xs,h,j,e,hj=>by simp at hj
 |e0::es,sz,xs,⟨a,b,h1,h2,h3,h4⟩,0,e,hj=>by
  simp at hj;subst hj
  rw[h1]
  refine⟨?_,by simp;omega⟩
  rw[Nat.zero_mul,List.drop_zero,List.take_append_of_le_length (by omega),List.take_of_length_le (by omega)];exact h3
 |e0::es,sz,xs,⟨a,b,h1,h2,h3,h4⟩,j+1,e,hj=>by
  simp at hj
  obtain⟨k1,k2⟩:=EsR.get h4 hj
  rw[h1]
  have e1:(j+1)*sz=a.length+j*sz:=by rw[Nat.add_mul,h2];omega
  refine⟨?_, ?_⟩
  ·rw[e1,List.drop_append,dL (by omega),List.nil_append]
   have:a.length+j*sz - a.length=j*sz:=by omega
   rw[this];exact k1
  ·rw[Nat.add_mul,e1,List.length_append];omega
theorem EsR.append: ∀{es fs:List U} {sz:Nat} {xs ys:List C},EsR H F es sz xs->EsR H F fs sz ys->EsR H F (es++fs) sz (xs++ys)
 | [],fs,sz,xs,ys,h,k=>by rw[show xs=[]from h];exact k
 |e::es,fs,sz,xs,ys,⟨a,b,h1,h2,h3,h4⟩,k=>by rw[h1];exact⟨a,b++ys,by simp,h2,h3,EsR.append h4 k⟩
theorem EsR.drop: ∀{es:List U} {sz:Nat} {xs:List C} (n:Nat),EsR H F es sz xs->EsR H F (es.drop n) sz (xs.drop (n*sz))
 |es,sz,xs,0,h=>by simpa using h
 | [],sz,xs,n+1,h=>by rw[show xs=[]from h];simp[EsR]
 |e::es,sz,xs,n+1,⟨a,b,h1,h2,h3,h4⟩=>by
  rw[h1]
  have e1:(n+1)*sz=a.length+n*sz:=by rw[Nat.add_mul,h2];omega
  have:a.length+n*sz - a.length=n*sz:=by omega
  rw[e1,List.drop_append,dL (Nat.le_add_right a.length (n*sz)),List.nil_append,this]
  exact EsR.drop n h4
theorem EsR.take: ∀{es:List U} {sz:Nat} {xs:List C} (n:Nat),EsR H F es sz xs->EsR H F (es.take n) sz (xs.take (n*sz))
 |es,sz,xs,0,h=>by simp[EsR]
 | [],sz,xs,n+1,h=>by rw[show xs=[]from h];simp[EsR]
 |e::es,sz,xs,n+1,⟨a,b,h1,h2,h3,h4⟩=>by
  rw[h1]
  have e1:(n+1)*sz=a.length+n*sz:=by rw[Nat.add_mul,h2];omega
  have:a.length+n*sz - a.length=n*sz:=by omega
  rw[e1,List.take_append,List.take_of_length_le (Nat.le_add_right a.length (n*sz)),this]
  exact⟨a,_,rfl,h2,h3,EsR.take n h4⟩
theorem EsR.set: ∀{es:List U} {sz:Nat} {xs:List C} {j:Nat} {e:U} {ys:List C},EsR H F es sz xs->UC H F e ys->ys.length=sz->j<es.length->EsR H F (es.set j e) sz (xs.take (j*sz)++ys++xs.drop ((j+1)*sz))
 | [],sz,xs,j,e,ys,h,_,_,hj=>by simp at hj
 |e0::es,sz,xs,0,e,ys,⟨a,b,h1,h2,h3,h4⟩,he,hl,hj=>by
  rw[h1]
  refine⟨ys,b, ?_,hl,he,h4⟩
  rw[Nat.zero_mul,List.take_zero,List.nil_append,show(0+1)*sz=a.length by rw[h2];omega,List.drop_left]
 |e0::es,sz,xs,j+1,e,ys,⟨a,b,h1,h2,h3,h4⟩,he,hl,hj=>by
  simp only[List.length_cons]at hj
  have h5:=EsR.set (j:=j) h4 he hl (by omega)
  rw[h1]
  refine⟨a,_, ?_,h2,h3,h5⟩
  have e1:(j+1)*sz=a.length+j*sz:=by rw[Nat.add_mul,h2];omega
  have e2:(j+1+1)*sz=a.length+(j+1)*sz:=by rw[Nat.add_mul (j+1),h2];omega
  have t1: ∀n,(a++b).take (a.length+n)=a++b.take n:=fun n=>by
   rw[List.take_append,List.take_of_length_le (Nat.le_add_right _ _),Nat.add_sub_cancel_left]
  have t2: ∀n,(a++b).drop (a.length+n)=b.drop n:=fun n=>by
   rw[List.drop_append,dL (Nat.le_add_right _ _),Nat.add_sub_cancel_left,List.nil_append]
  rw[e2,t2,e1,t1,List.append_assoc,List.append_assoc,List.append_assoc]
theorem EsR.sizes: ∀{es:List U} {sz:Nat} {xs:List C},EsR H F es sz xs-> ∀e∈es,e.size=sz
 | [],sz,xs,h,e,he=>by cases he
 |e0::es,sz,xs,⟨a,b,h1,h2,h3,h4⟩,e,he=>by
  rcases mC.1 he with rfl |he
  ·rw[h3.len,h2]
  ·exact EsR.sizes h4 e he
end
def idC:C->Option Nat
 | .slice i _ _=>some i
 | .ptr i _=>some i
 |_=>none
def Ob.live:Ob->Bool
 | .sl s=>s.b
 | .ob _ | .oa _=>true
 |_=>false
def Owns(o:Nat->Ob)(κ:Nat->C)(k i:Nat):Prop:=(o k).live=true/\idC (κ k)=some i
def OcR(H:Heap)(F:Nat->Prop)(κ:Nat->C)(o:Nat->Ob):Oc->C->Prop
 | .u u,x=>u.isSt=false/\UC H F u [x]
 | .h k,x=>(o k).isNone=true\/x=κ k
def OcsR(H:Heap)(F:Nat->Prop)(κ:Nat->C)(o:Nat->Ob):List Oc->List C->Prop
 | [],xs=>xs=[]
 |c::cs,xs=> ∃x xs',xs=x::xs'/\OcR H F κ o c x/\OcsR H F κ o cs xs'
def ObR(H:Heap)(F:Nat->Prop)(κ:Nat->C)(o:Nat->Ob)(b0 k:Nat):Ob->Prop
 | .none=>True
 | .sl s=>(s.b=false/\s.es=[]/\κ k= .nilSlice)\/(s.b=true/\ ∃i p cs,κ k= .slice i p s.es.length/\b0<=i/\i<H.next/\H.get i=some (.cells s.sz cs)/\p+s.es.length*s.sz<=cs.length/\EsR H F s.es s.sz ((cs.drop p).take (s.es.length*s.sz)))
 | .ob cs=> ∃i z xs,κ k= .ptr i 0/\b0<=i/\i<H.next/\H.get i=some (.cells z xs)/\OcsR H F κ o cs xs
 | .oa v=> ∃i z xs,κ k= .ptr i 0/\b0<=i/\i<H.next/\H.get i=some (.cells z xs)/\UC H F v xs
 | .fz u=>u.isSt=false/\UC H F u [κ k]
def YR(H:Heap)(F:Nat->Prop)(κ:Nat->C)(o:Nat->Ob)(s:Nat->Y):Y->T->Prop
 | .poison,_=>True
 | .val u,t=> ∃v,t= .val v/\UV H F u v
 | .tup us,t=> ∃vs,t= .val (.tuple vs)/\UVs H F us vs
 | .agg cs,t=> ∃xs,t= .val (.agg xs)/\OcsR H F κ o cs xs
 | .loc cs,t=> ∃xs,t= .loc xs/\OcsR H F κ o cs xs
 | .h k,t=>(o k).isNone=true\/t= .val (.c (κ k))
 | .w k lo n,t=>match o k with
  | .sl x=>x.b=true/\ ∃i p m,κ k= .slice i p m/\t= .val (.c (.slice i (p+lo*x.sz) n))/\lo+n<=x.es.length
  |_=>True
 | .addr q c,t=>match s q with
  | .loc _=>t= .laddr q c
  |_=>True
 | .oaddr k c,t=>(o k).isNone=true\/ ∃i,κ k= .ptr i 0/\t= .val (.c (.ptr i c))
 | .eaddr k j c,t=>match o k with
  | .sl x=>x.b=true/\ ∃i p m,κ k= .slice i p m/\t= .val (.c (.ptr i (p+j*x.sz+c)))/\j<x.es.length
  |_=>True
def Oc.refs(k:Nat):Oc->Prop
 | .h j=>j=k
 | .u _=>False
def Y.refs(k:Nat):Y->Prop
 | .agg cs | .loc cs=> ∃c∈cs,c.refs k
 | .h j | .w j _ _ | .oaddr j _ | .eaddr j _ _=>j=k
 |_=>False
def Ob.refs(k:Nat):Ob->Prop
 | .ob cs=> ∃c∈cs,c.refs k
 |_=>False
structure SR (b0:Nat) (F:Nat->Prop) (κ:Nat->C) (z:Z) (e:Env) (H:Heap):Prop where
 sl: ∀p,YR H F κ z.o z.s (z.s p) (e.get p)
 ob: ∀k,ObR H F κ z.o b0 k (z.o k)
 inj: ∀k k' i,Owns z.o κ k i->Owns z.o κ k' i->k=k'
 disj: ∀k i,Owns z.o κ k i-> ¬F i
 flt: ∀i,F i->i<H.next
 low:b0<=H.next
 fs: ∀k,z.n<=k->k<base-> ∀p,¬(z.s p).refs k
 fo: ∀k,z.n<=k->k<base->(∀j,¬(z.o j).refs k)/\(z.o k)= .none
def Compat:Ob->Ob->Prop
 |_, .none=>True
 | .sl s, .sl s'=>s'.b=s.b/\s'.sz=s.sz/\s'.es.length=s.es.length
 | .ob _, .ob _=>True
 | .oa _, .oa _=>True
 | .none, .fz _=>False
 |_, .fz _=>True
 |_,_=>False
theorem Compat.refl(b:Ob):Compat b b:=by cases b<;>simp[Compat]
theorem Compat.trans{a b c:Ob}(h:Compat a b)(k:Compat b c):Compat a c:=by
 cases a<;>cases b<;>cases c<;>simp_all [Compat]
theorem Compat.none{b b':Ob}(h:Compat b b')(hb:b.isNone=true):b'.isNone=true:=by
 cases b<;>cases b'<;>simp_all [Compat,Ob.isNone]
theorem Compat.sl{b:Ob}{s':Sx}(h:Compat b (.sl s')): ∃s,b= .sl s/\s'.b=s.b/\s'.sz=s.sz/\s'.es.length=s.es.length:=by
 cases b<;>simp[Compat]at h
 exact⟨_,rfl,h⟩
section
variable{H H':Heap}{F F':Nat->Prop}{κ κ':Nat->C}{o o':Nat->Ob}
theorem OcR.mono(m:FLe H F H' F'){c:Oc}{x:C}(hc: ∀k,c.refs k->κ' k=κ k/\Compat (o k) (o' k))(h:OcR H F κ o c x):OcR H' F' κ' o' c x:=by
 cases c with
 |u u=>exact⟨h.1,h.2.mono m⟩
 |h k=>
  obtain⟨h1,h2⟩:=hc k rfl
  rcases h with h |h
  ·exact .inl (h2.none h)
  ·exact .inr (by rw[h1];exact h)
theorem OcsR.mono(m:FLe H F H' F'): ∀{cs:List Oc} {xs:List C},(∀k,(∃c∈cs,c.refs k)->κ' k=κ k/\Compat (o k) (o' k))->OcsR H F κ o cs xs->OcsR H' F' κ' o' cs xs
 | [],xs,_,h=>h
 |c::cs,xs,hc,⟨x,xs',h1,h2,h3⟩=>⟨x,xs',h1,h2.mono m fun k hk=>hc k ⟨c,by simp,hk⟩,OcsR.mono m (fun k ⟨d,hd,hk⟩=>hc k ⟨d,by simp[hd],hk⟩) h3⟩
theorem YR.mono(m:FLe H F H' F'){s s':Nat->Y}{y:Y}{t:T}(hc: ∀k,y.refs k->κ' k=κ k/\Compat (o k) (o' k))(hs: ∀q c,y= .addr q c-> ∀cs,s' q= .loc cs-> ∃cs',s q= .loc cs')(h:YR H F κ o s y t):YR H' F' κ' o' s' y t:=by
 cases y with
 |poison=>trivial
 |val u=>obtain⟨v,h1,h2⟩:=h;exact⟨v,h1,h2.mono m⟩
 |tup us=>obtain⟨v,h1,h2⟩:=h;exact⟨v,h1,h2.mono m⟩
 |agg cs=>obtain⟨v,h1,h2⟩:=h;exact⟨v,h1,h2.mono m hc⟩
 |loc cs=>obtain⟨v,h1,h2⟩:=h;exact⟨v,h1,h2.mono m hc⟩
 |h k=>
  obtain⟨h1,h2⟩:=hc k rfl
  rcases h with h |h
  ·exact .inl (h2.none h)
  ·exact .inr (by rw[h1];exact h)
 |w k lo n=>
  obtain⟨h1,h2⟩:=hc k rfl
  simp only[YR]at h⊢
  split
  ·rename_i x hx
   rw[hx]at h2
   obtain⟨x0,h3,h4,h5,h6⟩:=h2.sl
   rw[h3]at h
   obtain⟨hb,i,p,m',k1,k2,k3⟩:=h
   exact⟨by rw[h4];exact hb,i,p,m',by rw[h1];exact k1,by rw[h5];exact k2,by rw[h6];exact k3⟩
  ·trivial
 |addr q c=>
  simp only[YR]at h⊢
  split
  ·rename_i cs hq
   obtain⟨cs',h1⟩:=hs q c rfl cs hq
   rw[h1]at h;exact h
  ·trivial
 |oaddr k c=>
  obtain⟨h1,h2⟩:=hc k rfl
  rcases h with h |⟨i,h3,h4⟩
  ·exact .inl (h2.none h)
  ·exact .inr ⟨i,by rw[h1];exact h3,h4⟩
 |eaddr k j c=>
  obtain⟨h1,h2⟩:=hc k rfl
  simp only[YR]at h⊢
  split
  ·rename_i x hx
   rw[hx]at h2
   obtain⟨x0,h3,h4,h5,h6⟩:=h2.sl
   rw[h3]at h
   obtain⟨hb,i,p,m',k1,k2,k3⟩:=h
   exact⟨by rw[h4];exact hb,i,p,m',by rw[h1];exact k1,by rw[h5];exact k2,by rw[h6];exact k3⟩
  ·trivial
theorem ObR.mono(m:FLe H F H' F'){b0 k:Nat}{b:Ob}(hn:H.next<=H'.next)(hk:κ' k=κ k)(hg: ∀i,b.live=true->idC (κ k)=some i->H'.get i=H.get i)(hc: ∀j,b.refs j->κ' j=κ j/\Compat (o j) (o' j))(h:ObR H F κ o b0 k b):ObR H' F' κ' o' b0 k b:=by
 cases b with
 |none=>trivial
 |sl s=>
  rcases h with⟨h1,h2,h3⟩ |⟨hb,i,p,cs,h1,h2,h3,h4,h5,h6⟩
  ·exact .inl ⟨h1,h2,by rw[hk];exact h3⟩
  ·exact .inr ⟨hb,i,p,cs,by rw[hk];exact h1,h2,nL h3 hn,by rw[hg i hb (by rw[h1];rfl)];exact h4,h5,h6.mono m⟩
 |ob cs=>
  obtain⟨i,z,xs,h1,h2,h3,h4,h5⟩:=h
  exact⟨i,z,xs,by rw[hk];exact h1,h2,nL h3 hn,by rw[hg i rfl (by rw[h1];rfl)];exact h4,h5.mono m hc⟩
 |oa v=>
  obtain⟨i,z,xs,h1,h2,h3,h4,h5⟩:=h
  exact⟨i,z,xs,by rw[hk];exact h1,h2,nL h3 hn,by rw[hg i rfl (by rw[h1];rfl)];exact h4,h5.mono m⟩
 |fz u=>exact⟨h.1,by rw[hk];exact h.2.mono m⟩
theorem ObR.id{b0 k i:Nat}{b:Ob}(h:ObR H F κ o b0 k b)(hl:b.live=true)(hi:idC (κ k)=some i):b0<=i/\i<H.next/\ ∃z cs,H.get i=some (.cells z cs):=by
 cases b with
 |none=>cases hl
 |sl s=>
  rcases h with⟨h1,_,_⟩ |⟨hb,j,p,cs,h1,h2,h3,h4,_⟩
  ·rw[show s.b=true from hl]at h1;cases h1
  ·rw[h1]at hi;cases hi;exact⟨h2,h3,_,_,h4⟩
 |ob cs=>obtain⟨j,z,xs,h1,h2,h3,h4,_⟩:=h;rw[h1]at hi;cases hi;exact⟨h2,h3,_,_,h4⟩
 |oa cs=>obtain⟨j,z,xs,h1,h2,h3,h4,_⟩:=h;rw[h1]at hi;cases hi;exact⟨h2,h3,_,_,h4⟩
 |fz u=>cases hl
end
section
variable{b0:Nat}{F:Nat->Prop}{κ:Nat->C}{z:Z}{e:Env}{H:Heap}
theorem SR.step(R:SR b0 F κ z e H){z':Z}{F':Nat->Prop}{κ':Nat->C}{H':Heap}(m:FLe H F H' F')(hn:H.next<=H'.next)(hs:z'.s=z.s)(hzn:z.n<=z'.n)
  (hk: ∀k,(k<z.n\/base<=k)->κ' k=κ k/\Compat (z.o k) (z'.o k)) (hob: ∀k,ObR H' F' κ' z'.o b0 k (z'.o k))
  (hinj: ∀k k' i,Owns z'.o κ' k i->Owns z'.o κ' k' i->k=k') (hdisj: ∀k i,Owns z'.o κ' k i-> ¬F' i) (hflt: ∀i,F' i->i<H'.next)
  (hfo: ∀k,z'.n<=k->k<base->(∀j,¬(z'.o j).refs k)/\(z'.o k)= .none):SR b0 F' κ' z' e H':=by
 refine⟨fun p=> ?_,hob,hinj,hdisj,hflt,nT R.low hn,fun k h1 h2 p=>by rw[hs];exact R.fs k (nT hzn h1) h2 p,hfo⟩
 rw[hs]
 refine(R.sl p).mono m (fun k hr=>hk k ?_) fun q c _ cs h=>⟨cs,h⟩
 by_cases h1:k<z.n
 ·exact .inl h1
 ·by_cases h2:base<=k
  ·exact .inr h2
  ·exact absurd hr (R.fs k (by omega) (by omega) p)
theorem SR.grow(R:SR b0 F κ z e H){F':Nat->Prop}{H':Heap}(m:FLe H F H' F')(hn:H.next<=H'.next)(hg: ∀k i,Owns z.o κ k i->H'.get i=H.get i)(hF: ∀i,F' i->i<H'.next)(hd: ∀k i,Owns z.o κ k i-> ¬F' i):SR b0 F' κ z e H':=
 R.step m hn rfl (nR _) (fun k _=>⟨rfl,Compat.refl _⟩) (fun k=>(R.ob k).mono m hn rfl (fun i h1 h2=>hg k i ⟨h1,h2⟩) fun j _=>⟨rfl,Compat.refl _⟩) R.inj hd hF R.fo
@[simp] theorem setO_s (z:Z) (k:Nat) (b:Ob):(z.setO k b).s=z.s:=rfl
@[simp] theorem setO_n (z:Z) (k:Nat) (b:Ob):(z.setO k b).n=z.n:=rfl
theorem w1E(z:Z)(k:Nat)(b:Ob)(j:Nat):(z.setO k b).o j=if j=k then b else z.o j:=by
 simp only[Z.setO,cond_eq_ite,Nat.beq_eq]
@[simp] theorem setO_same (z:Z) (k:Nat) (b:Ob):(z.setO k b).o k=b:=by rw[w1E];simp
theorem j0f(z:Z){k j:Nat}(b:Ob)(h:j≠k):(z.setO k b).o j=z.o j:=by rw[w1E,if_neg h]
@[simp] theorem put_o (z:Z) (p:Nat) (y:Y):(z.put p y).o=z.o:=rfl
@[simp] theorem put_n (z:Z) (p:Nat) (y:Y):(z.put p y).n=z.n:=rfl
theorem w0m(z:Z)(p:Nat)(y:Y)(q:Nat):(z.put p y).s q=if q=p then y else z.s q:=by
 simp only[Z.put,cond_eq_ite,Nat.beq_eq]
theorem SR.used(R:SR b0 F κ z e H){k:Nat}(h:z.o k≠ .none):k<z.n\/base<=k:=by
 by_cases h1:k<z.n
 ·exact .inl h1
 ·by_cases h2:base<=k
  ·exact .inr h2
  ·exact absurd (R.fo k (by omega) (by omega)).2 h
theorem SR.repl(R:SR b0 F κ z e H){k:Nat}{b:Ob}{F':Nat->Prop}{H':Heap}(hu:z.o k≠ .none)(m:FLe H F H' F')(hn:H.next<=H'.next)(hc:Compat (z.o k) b)(hob:ObR H' F' κ (z.setO k b).o b0 k b)
  (hg: ∀j i,j≠k->Owns z.o κ j i->H'.get i=H.get i) (hl:b.live=true->(z.o k).live=true) (hF: ∀i,F' i->F i\/(b.live=false/\Owns z.o κ k i)) (hfr: ∀j,z.n<=j->j<base-> ¬b.refs j):SR b0 F' κ (z.setO k b) e H':=by
 have hcomp: ∀j,Compat (z.o j) ((z.setO k b).o j):=fun j=>by
  by_cases h:j=k
  ·subst h;rw[setO_same];exact hc
  ·rw[j0f z b h];exact Compat.refl _
 have hown: ∀j i,Owns (z.setO k b).o κ j i->Owns z.o κ j i:=fun j i h=>by
  by_cases hj:j=k
  ·subst hj;rw[Owns,setO_same]at h;exact⟨hl h.1,h.2⟩
  ·rw[Owns,j0f z b hj]at h;exact h
 refine R.step m hn rfl (nR _) (fun j _=>⟨rfl,hcomp j⟩) (fun j=> ?_) (fun j j' i h1 h2=>R.inj j j' i (hown j i h1) (hown j' i h2)) (fun j i h1 h2=> ?_) (fun i hi=> ?_) fun j h1 h2=>⟨fun j'=> ?_, ?_⟩
 ·by_cases h:j=k
  ·subst h;rw[setO_same];exact hob
  ·rw[j0f z b h]
   exact(R.ob j).mono m hn rfl (fun i h1 h2=>hg j i h ⟨h1,h2⟩) fun j' _=>⟨rfl,hcomp j'⟩
 ·rcases hF i h2 with h3 |⟨h3,h4⟩
  ·exact R.disj j i (hown j i h1) h3
  ·have:=R.inj j k i (hown j i h1) h4
   subst this
   rw[Owns,setO_same,h3]at h1;cases h1.1
 ·rcases hF i hi with h3 |⟨h3,h4⟩
  ·exact nL (R.flt i h3) hn
  ·exact nL ((R.ob k).id h4.1 h4.2).2.1 hn
 ·by_cases h:j'=k
  ·subst h;rw[setO_same];exact hfr j h1 h2
  ·rw[j0f z b h];exact(R.fo j h1 h2).1 j'
 ·by_cases h:j=k
  ·subst h;exact absurd (R.fo j h1 h2).2 hu
  ·rw[j0f z b h];exact(R.fo j h1 h2).2
theorem j1F(p:Nat)(t:T):t.purge p=t\/(∃o,t= .laddr p o/\t.purge p= .poison):=by
 rcases q0n p t with h |⟨_,o,h⟩
 ·exact .inl h
 ·exact .inr ⟨o,h,by rw[h];simp[T.purge]⟩
theorem YR.purged{o:Nat->Ob}{s:Nat->Y}{y:Y}{t:T}{p:Nat}(h:YR H F κ o s y t)(hp: ∀cs,s p≠ .loc cs):YR H F κ o s y (t.purge p):=by
 rcases j1F p t with h1 |⟨c,h1,h2⟩
 ·rw[h1];exact h
 ·rw[h2];subst h1
  cases y with
  |poison=>trivial
  |val u=>obtain⟨v,h1,_⟩:=h;cases h1
  |tup u=>obtain⟨v,h1,_⟩:=h;cases h1
  |agg u=>obtain⟨v,h1,_⟩:=h;cases h1
  |loc u=>obtain⟨v,h1,_⟩:=h;cases h1
  |h k=>rcases h with h |h;exact .inl h;cases h
  |w k lo n=>
   simp only[YR]at h⊢
   split
   ·rename_i x hx;rw[hx]at h;obtain⟨_,i,q,m,_,h,_⟩:=h;cases h
   ·trivial
  |addr q d=>
   simp only[YR]at h⊢
   split
   ·rename_i cs hq
    rw[hq]at h;cases h
    exact absurd hq (hp cs)
   ·trivial
  |oaddr k c=>rcases h with h |⟨i,_,h⟩;exact .inl h;cases h
  |eaddr k j c=>
   simp only[YR]at h⊢
   split
   ·rename_i x hx;rw[hx]at h;obtain⟨_,i,q,m,_,h,_⟩:=h;cases h
   ·trivial
theorem put_get{e:Env}{p q:Nat}{t:T}(hp:p<e.length):((e.put p t).get q=if q=p then t.purge p else e.get q)\/((e.put p t).get q=if q=p then t.purge p else(e.get q).purge p):=by
 unfold Env.put
 split
 ·right
  by_cases h:q=p
  ·subst h;simp only[iT]
   exact q0K (by simpa using hp)
  ·simp only[h,iF]
   rw[q0h h]
   unfold Env.get
   rw[lG,lG,List.getElem?_map]
   cases e[q]? <;>simp[T.purge]
 ·left
  by_cases h:q=p
  ·subst h;simp only[iT];exact q0K hp
  ·simp only[h,iF];exact q0h h
theorem SR.put(R:SR b0 F κ z e H){d:Nat}(hd:d<e.length){y:Y}{t:T}(h:YR H F κ z.o z.s y t)(hr: ∀k,z.n<=k->k<base-> ¬y.refs k)(hy: ∀cs,y≠ .loc cs):SR b0 F κ (z.put d y) (e.put d t) H:=by
 have hnl: ∀cs,(z.put d y).s d≠ .loc cs:=fun cs=>by rw[w0m,if_pos rfl];exact hy cs
 have hs: ∀q c (y0:Y),y0= .addr q c-> ∀cs,(z.put d y).s q= .loc cs-> ∃cs',z.s q= .loc cs':=fun q c y0 _ cs hq=>by
  rw[w0m]at hq
  split at hq
  ·exact absurd hq (hy cs)
  ·exact⟨cs,hq⟩
 refine⟨fun p=> ?_,R.ob,R.inj,R.disj,R.flt,R.low,fun k h1 h2 p=> ?_,R.fo⟩
 ·have key: ∀y0 t0,YR H F κ z.o z.s y0 t0->YR H F κ z.o (z.put d y).s y0 t0:=fun y0 t0 h0=>h0.mono (.refl _ _) (fun k _=>⟨rfl,Compat.refl _⟩) fun q c hq cs h2=>hs q c y0 hq cs h2
  rcases put_get (e:=e) (p:=d) (q:=p) (t:=t) hd with h1 |h1
  ·rw[h1,w0m]
   split
   ·exact(key y t h).purged hnl
   ·exact key _ _ (R.sl p)
  ·rw[h1,w0m]
   split
   ·exact(key y t h).purged hnl
   ·exact(key _ _ (R.sl p)).purged hnl
 ·rw[w0m]
  split
  ·exact hr k h1 h2
  ·exact R.fs k h1 h2 p
theorem SR.kill: ∀{ds:List Nat} {z:Z} {e:Env},SR b0 F κ z e H->(∀d∈ds,d<e.length)->SR b0 F κ (Z.kill ds z) (Env.kill ds e) H
 | [],z,e,R,_=>R
 |d::ds,z,e,R,hd=>by
  refine SR.kill (ds:=ds) (z:=z.put d .poison) (e:=e.put d .poison) (R.put (hd d (by simp)) (y:= .poison) (t:= .poison) trivial (fun _ _ _ h=>h) (fun cs h=>by cases h)) fun d' hd'=> ?_
  have:(e.put d .poison).length=e.length:=by unfold Env.put;split<;>simp
  rw[this];exact hd d' (by simp[hd'])
end
def FO(F:Nat->Prop)(o:Nat->Ob)(κ:Nat->C)(i:Nat):Prop:=F i\/ ∃k,Owns o κ k i
theorem FO.le{H:Heap}{F:Nat->Prop}{o:Nat->Ob}{κ:Nat->C}:FLe H F H (FO F o κ):=⟨fun _ h=> .inl h,fun _ _=>rfl⟩
section
variable{b0:Nat}{F:Nat->Prop}{κ:Nat->C}{z:Z}{e:Env}{H:Heap}
theorem Q0a{x:C}{u:U}(h:U.of x=some u):u.isSt=false/\UC H F u [x]:=by
 unfold U.of at h
 split at h
 ·cases h;exact⟨rfl, .inl ⟨rfl,rfl,rfl⟩⟩
 ·split at h
  ·rename_i hf;cases h;exact⟨rfl,hf,rfl⟩
  ·cases h
theorem z0m: ∀{cs:List C} {us:List U},U.ofs cs=some us->UCs H F us cs
 | [],us,h=>by cases h;rfl
 |c::cs,us,h=>by
  simp only[U.ofs]at h
  obtain⟨u,hu,h⟩:=oB.1 h
  obtain⟨us',hus,h⟩:=oB.1 h
  cases h
  obtain⟨h1,h2⟩:=Q0a (H:=H) (F:=F) hu
  exact⟨c,cs,rfl,h1,h2,z0m hus⟩
theorem ObR.sl_uc{k:Nat}{s:Sx}(h:ObR H F κ z.o b0 k (.sl s)){F':Nat->Prop}(m:FLe H F H F')(hF: ∀i,s.b=true->idC (κ k)=some i->F' i):UC H F' s.fz [κ k]:=by
 rcases h with⟨h1,h2,h3⟩ |⟨hb,i,p,cs,h1,h2,h3,h4,h5,h6⟩
 ·exact .inl ⟨h1,h2,by rw[h3]⟩
 ·exact .inr ⟨hb,i,p,cs,s.sz,by rw[h1],hF i hb (by rw[h1];rfl),h4,h5,h6.mono m⟩
theorem ObR.oa_uc{k:Nat}{v:U}(h:ObR H F κ z.o b0 k (.oa v)){F':Nat->Prop}(m:FLe H F H F')(hF: ∀i,idC (κ k)=some i->F' i):UC H F' (.ref v 0) [κ k]:=by
 obtain⟨i,zz,xs,h1,h2,h3,h4,h5⟩:=h
 exact⟨i,0,zz,xs,xs.length,by rw[h1],hF i (by rw[h1];rfl),h4,by simp,by simpa using h5.mono m⟩
theorem ObR.ob_uc{k:Nat}{cs:List Oc}(h:ObR H F κ z.o b0 k (.ob cs)){F':Nat->Prop}(hF: ∀i,idC (κ k)=some i->F' i){us:List U}(hus: ∀xs,OcsR H F κ z.o cs xs->UCs H F' us xs):UC H F' (.ref (.st us) 0) [κ k]:=by
 obtain⟨i,zz,xs,h1,h2,h3,h4,h5⟩:=h
 exact⟨i,0,zz,xs,xs.length,by rw[h1],hF i (by rw[h1];rfl),h4,by simp,by simpa[UC]using hus xs h5⟩
theorem k0F{f:Nat->Option U}{F':Nat->Prop}(m:FLe H F H F')(hf: ∀j u,f j=some u->(z.o j).isNone=false/\u.isSt=false/\UC H F' u [κ j]): ∀{cs:List Oc} {us:List U} {xs:List C},Z.look.lookC f cs=some us->OcsR H F κ z.o cs xs->UCs H F' us xs
 | [],us,xs,h,hr=>by simp only[Z.look.lookC,oI]at h;subst h;exact hr
 | .u x::cs,us,xs,h,hr=>by
  simp only[Z.look.lookC,oM]at h
  obtain⟨us',hus,rfl⟩:=h
  obtain⟨y,ys,h1,h2,h3⟩:=hr
  exact⟨y,ys,h1,h2.1,h2.2.mono m,k0F m hf hus h3⟩
 | .h k::cs,us,xs,h,hr=>by
  simp only[Z.look.lookC]at h
  obtain⟨u,hu,h⟩:=oB.1 h
  simp only[oM]at h
  obtain⟨us',hus,rfl⟩:=h
  obtain⟨y,ys,h1,h2,h3⟩:=hr
  obtain⟨k1,k2,k3⟩:=hf k u hu
  have:y=κ k:=h2.resolve_left (by rw[k1];simp)
  subst this
  exact⟨_,ys,h1,k2,k3,k0F m hf hus h3⟩
theorem SR.look(R:SR b0 F κ z e H): ∀(f:Nat) {k:Nat} {u:U},Z.look z.o f k=some u->(z.o k).isNone=false/\u.isSt=false/\UC H (FO F z.o κ) u [κ k]
 | 0,k,u,h=>by simp[Z.look]at h
 |f+1,k,u,h=>by
  have hob:=R.ob k
  simp only[Z.look]at h
  cases hk:z.o k with
  |none=>rw[hk]at h;cases h
  |sl s=>
   rw[hk]at h hob;cases h
   exact⟨rfl,rfl,hob.sl_uc FO.le fun i h1 h2=> .inr ⟨k,by rw[hk];exact h1,h2⟩⟩
  |oa v=>
   rw[hk]at h hob;cases h
   exact⟨rfl,rfl,hob.oa_uc FO.le fun i h2=> .inr ⟨k,by rw[hk];rfl,h2⟩⟩
  |fz v=>
   rw[hk]at h hob;cases h
   exact⟨rfl,hob.1,hob.2.mono FO.le⟩
  |ob cs=>
   rw[hk]at h hob
   simp only[oM]at h
   obtain⟨us,hus,rfl⟩:=h
   exact⟨rfl,rfl,hob.ob_uc (fun i h2=> .inr ⟨k,by rw[hk];rfl,h2⟩) fun xs hxs=>k0F FO.le (fun j u hj=>R.look f hj) hus hxs⟩
theorem SR.lk(R:SR b0 F κ z e H){k:Nat}{u:U}(h:z.lk k=some u):(z.o k).isNone=false/\u.isSt=false/\UC H (FO F z.o κ) u [κ k]:=R.look 4 h
theorem SR.lkC(R:SR b0 F κ z e H){cs:List Oc}{us:List U}{xs:List C}(h:z.lkC cs=some us)(hr:OcsR H F κ z.o cs xs):UCs H (FO F z.o κ) us xs:=
 k0F FO.le (fun j u hj=>R.look 4 hj) h hr
theorem w1F{k lo n:Nat}{s:Sx}{t:T}(h:ObR H F κ z.o b0 k (.sl s))(hw:s.b=true/\ ∃i p m,κ k= .slice i p m/\t= .val (.c (.slice i (p+lo*s.sz) n))/\lo+n<=s.es.length){F':Nat->Prop}(m:FLe H F H F')(hF: ∀i,idC (κ k)=some i->F' i):
  ∃c,t= .val (.c c)/\UC H F' (s.win lo n).fz [c]:=by
 obtain⟨hb,i,p,m',h1,h2,h3⟩:=hw
 rcases h with⟨h4,_⟩ |⟨_,i',p',cs,k1,k2,k3,k4,k5,k6⟩
 ·rw[hb]at h4;cases h4
 ·rw[h1]at k1;cases k1
  have hl:(s.win lo n).es.length=n:=by simp only[Sx.win,List.length_take,List.length_drop];omega
  refine⟨_,h2, .inr ⟨hb,i,p+lo*s.sz,cs,s.sz, ?_,hF i (by rw[h1];rfl),k4, ?_, ?_⟩⟩
  ·rw[hl]
  ·rw[hl]
   have:(lo+n)*s.sz<=s.es.length*s.sz:=Nat.mul_le_mul_right _ h3
   rw[Nat.add_mul]at this;omega
  ·have h5:=((k6.mono m).drop lo).take n
   rw[hl]
   have e1:((((cs.drop p).take (s.es.length*s.sz)).drop (lo*s.sz)).take (n*s.sz))=(cs.drop (p+lo*s.sz)).take (n*s.sz):=by
    rw[List.drop_take,List.take_take,List.drop_drop]
    congr 1
    have:(lo+n)*s.sz<=s.es.length*s.sz:=Nat.mul_le_mul_right _ h3
    rw[Nat.add_mul]at this;omega
   rw[e1]at h5;exact h5
theorem SR.yl(R:SR b0 F κ z e H){x:X}{u:U}(h:yl z x=some u): ∃v,ev e x=some v/\UV H (FO F z.o κ) u v:=by
 cases x with
 |c v=>
  cases v with
  |c x=>
   obtain⟨h1,h2⟩:=Q0a (H:=H) (F:=FO F z.o κ) h
   exact⟨_,rfl,h1,h2⟩
  |agg cs=>
   simp only[Vm.yl,oM]at h
   obtain⟨us,hus,rfl⟩:=h
   exact⟨_,rfl,us,rfl,z0m hus⟩
  |tuple vs=>cases h
 |f g=>cases h;exact⟨_,rfl,rfl,[],[],rfl,rfl,rfl⟩
 |t p=>
  have hs:=R.sl p
  simp only[Vm.yl]at h
  simp only[ev]
  cases hp:z.s p with
  |val w=>
   rw[hp]at h hs;cases h
   obtain⟨v,h1,h2⟩:=hs
   exact⟨v,by rw[h1],h2.mono FO.le⟩
  |agg cs=>
   rw[hp]at h hs
   simp only[oM]at h
   obtain⟨us,hus,rfl⟩:=h
   obtain⟨xs,h1,h2⟩:=hs
   exact⟨.agg xs,by rw[h1],us,rfl,R.lkC hus h2⟩
  |h k=>
   rw[hp]at h hs
   obtain⟨h1,h2,h3⟩:=R.lk h
   have ht:=hs.resolve_left (by rw[h1];simp)
   exact⟨.c (κ k),by rw[ht],h2,h3⟩
  |w k lo n=>
   rw[hp]at h hs
   simp only at h
   split at h
   ·rename_i s hk
    cases h
    simp only[YR,hk]at hs
    have hob:=R.ob k
    rw[hk]at hob
    obtain⟨c,h1,h2⟩:=w1F (F':=FO F z.o κ) hob hs FO.le (fun i hi=> .inr ⟨k,by rw[hk];exact hs.1,hi⟩)
    exact⟨.c c,by rw[h1],rfl,h2⟩
   ·cases h
  |oaddr k c=>
   rw[hp]at h hs
   simp only at h
   split at h
   ·rename_i v o hk
    cases h
    have hob:=R.ob k
    rw[hk]at hob
    obtain⟨i,h1,h2⟩:=hs.resolve_left (by rw[hk];simp[Ob.isNone])
    obtain⟨i',q,zz,cs,n,g1,g2,g3,g4,g5⟩:=hob.2.mono (F':=FO F z.o κ) FO.le
    rw[h1]at g1
    simp only[List.cons.injEq,C.ptr.injEq,and_true]at g1
    obtain⟨rfl,g1⟩:=g1
    refine⟨.c (.ptr i c),by rw[h2],rfl,i,q,zz,cs,n, ?_,g2,g3,g4,g5⟩
    simp;omega
   ·cases h
  |_=>rw[hp]at h;cases h
end
structure Fzd (b0:Nat) (κ:Nat->C) (e:Env) (H:Heap) (F:Nat->Prop) (z:Z) (F':Nat->Prop) (z':Z):Prop where
 sr:SR b0 F' κ z' e H
 le:FLe H F H F'
 from_: ∀i,F' i->F i\/ ∃k,Owns z.o κ k i
 s:z'.s=z.s
 n:z'.n=z.n
 own: ∀k i,Owns z'.o κ k i->Owns z.o κ k i
 comp: ∀k,Compat (z.o k) (z'.o k)
def fzOf:Ob->Option U
 | .sl s=>some s.fz
 | .oa v=>some (.ref v 0)
 | .fz u=>some u
 |_=>none
section
variable{b0:Nat}{F F' F'':Nat->Prop}{κ:Nat->C}{z z' z'':Z}{e:Env}{H:Heap}
theorem Fzd.refl(R:SR b0 F κ z e H):Fzd b0 κ e H F z F z:=⟨R, .refl _ _,fun _ h=> .inl h,rfl,rfl,fun _ _ h=>h,fun _=> .refl _⟩
theorem Fzd.trans(h:Fzd b0 κ e H F z F' z')(k:Fzd b0 κ e H F' z' F'' z''):Fzd b0 κ e H F z F'' z'':=
 ⟨k.sr,h.le.trans k.le,fun i hi=>(k.from_ i hi).elim (h.from_ i) fun⟨j,hj⟩=> .inr ⟨j,h.own j i hj⟩,k.s.trans h.s,k.n.trans h.n,fun j i hj=>h.own j i (k.own j i hj),fun j=>(h.comp j).trans (k.comp j)⟩
theorem SR.fz1(R:SR b0 F κ z e H){k:Nat}{u:U}(hl:(z.o k).live=true\/ ∃s,z.o k= .sl s)(hu:u.isSt=false/\UC H (fun i=>F i\/Owns z.o κ k i) u [κ k]):Fzd b0 κ e H F z (fun i=>F i\/Owns z.o κ k i) (z.setO k (.fz u)):=by
 have hne:z.o k≠ .none:=fun h=>by rcases hl with h1 |⟨s,h1⟩<;>rw[h]at h1<;>cases h1
 have m:FLe H F H (fun i=>F i\/Owns z.o κ k i):=⟨fun _ h=> .inl h,fun _ _=>rfl⟩
 have hcmp:Compat (z.o k) (.fz u):=by
  rcases hl with h |⟨s,h⟩
  ·cases hk:z.o k<;>rw[hk]at h<;>first |(cases h;done) |simp[Compat]
  ·rw[h];simp[Compat]
 refine⟨R.repl hne m (nR _) hcmp hu (fun _ _ _ _=>rfl) (fun h=>by cases h) (fun i hi=>hi.imp id fun h=>⟨rfl,h⟩) (fun _ _ _ h=>h),m,fun i hi=>hi.imp id fun h=>⟨k,h⟩,rfl,rfl,fun j i hj=> ?_,fun j=> ?_⟩
 ·by_cases hjk:j=k
  ·subst hjk;rw[Owns,setO_same]at hj;cases hj.1
  ·rw[Owns,j0f z _ hjk]at hj;exact hj
 ·by_cases hjk:j=k
  ·subst hjk;rw[setO_same];exact hcmp
  ·rw[j0f z _ hjk];exact .refl _
theorem SR.fzSl(R:SR b0 F κ z e H){k:Nat}{s:Sx}(hk:z.o k= .sl s):Fzd b0 κ e H F z (fun i=>F i\/Owns z.o κ k i) (z.setO k (.fz s.fz)):=by
 have hob:=R.ob k
 rw[hk]at hob
 exact R.fz1 (.inr ⟨s,hk⟩) ⟨rfl,hob.sl_uc ⟨fun _ h=> .inl h,fun _ _=>rfl⟩ fun i h1 h2=> .inr ⟨by rw[hk];exact h1,h2⟩⟩
theorem SR.fzOa(R:SR b0 F κ z e H){k:Nat}{v:U}(hk:z.o k= .oa v):Fzd b0 κ e H F z (fun i=>F i\/Owns z.o κ k i) (z.setO k (.fz (.ref v 0))):=by
 have hob:=R.ob k
 rw[hk]at hob
 exact R.fz1 (.inl (by rw[hk];rfl)) ⟨rfl,hob.oa_uc ⟨fun _ h=> .inl h,fun _ _=>rfl⟩ fun i h2=> .inr ⟨by rw[hk];rfl,h2⟩⟩
theorem SR.fzCs(f:Nat): ∀{cs:List Oc} {F:Nat->Prop} {z z':Z},SR b0 F κ z e H->Z.fzO.fzC f z cs=some z'-> ∃F',Fzd b0 κ e H F z F' z'/\(∀j,fzOf (z'.o j)=fzOf (z.o j))/\(∀j u,z.o j= .fz u->z'.o j= .fz u)/\(∀j, .h j∈cs-> ∃u,fzOf (z.o j)=some u/\z'.o j= .fz u)/\ ∀j cs',z.o j= .ob cs'->z'.o j= .ob cs'
 | [],F,z,z',R,h=>by
  simp only[Z.fzO.fzC,oI]at h;subst h
  exact⟨F, .refl R,fun _=>rfl,fun _ _ h=>h,fun j h=>(by cases h),fun _ _ h=>h⟩
 | .u x::cs,F,z,z',R,h=>by
  simp only[Z.fzO.fzC]at h
  obtain⟨F',h1,h2,h3,h4,h5⟩:=SR.fzCs f R h
  exact⟨F',h1,h2,h3,fun j hj=>h4 j (by simpa using hj),h5⟩
 | .h k::cs,F,z,z',R,h=>by
  simp only[Z.fzO.fzC]at h
  have step: ∀{u:U} {F1:Nat->Prop},fzOf (z.o k)=some u->Fzd b0 κ e H F z F1 (z.setO k (.fz u))->Z.fzO.fzC f (z.setO k (.fz u)) cs=some z'-> ∃F',Fzd b0 κ e H F z F' z'/\(∀j,fzOf (z'.o j)=fzOf (z.o j))/\(∀j u,z.o j= .fz u->z'.o j= .fz u)/\(∀j, .h j∈(.h k::cs:List Oc)-> ∃u,fzOf (z.o j)=some u/\z'.o j= .fz u)/\ ∀j cs',z.o j= .ob cs'->z'.o j= .ob cs':=by
   intro u F1 hu hz h
   obtain⟨F',h1,h2,h3,h4,h5⟩:=SR.fzCs f hz.sr h
   have hof: ∀j,fzOf ((z.setO k (.fz u)).o j)=fzOf (z.o j):=fun j=>by
    by_cases hj:j=k
    ·subst hj;rw[setO_same];exact hu.symm
    ·rw[j0f z _ hj]
   refine⟨F',hz.trans h1,fun j=>(h2 j).trans (hof j),fun j v hv=>h3 j v ?_,fun j hj=> ?_,fun j cs' hj=>h5 j cs' ?_⟩
   ·by_cases hj:j=k
    ·subst hj;rw[hv]at hu;cases hu;rw[setO_same]
    ·rw[j0f z _ hj];exact hv
   ·rcases mC.1 hj with hj |hj
    ·cases hj
     exact⟨u,hu,h3 k u (by rw[setO_same])⟩
    ·obtain⟨v,k1,k2⟩:=h4 j hj
     exact⟨v,by rw[<-hof j];exact k1,k2⟩
   ·have:j≠k:=fun e'=>by subst e';rw[hj]at hu;cases hu
    rw[j0f z _ this];exact hj
  split at h
  ·rename_i s hk;exact step (by rw[hk];rfl) (R.fzSl hk) h
  ·rename_i v hk;exact step (by rw[hk];rfl) (R.fzOa hk) h
  ·rename_i u hk
   obtain⟨F',h1,h2,h3,h4,h5⟩:=SR.fzCs f R h
   refine⟨F',h1,h2,h3,fun j hj=> ?_,h5⟩
   rcases mC.1 hj with hj |hj
   ·cases hj;exact⟨u,by rw[hk];rfl,h3 k u hk⟩
   ·exact h4 j hj
  ·cases h
theorem Q0b{o:Nat->Ob}{f j:Nat}{u v:U}(h:fzOf (o j)=some u)(h2:Z.look o f j=some v):v=u:=by
 cases f with
 |zero=>simp[Z.look]at h2
 |succ f=>
  simp only[Z.look]at h2
  cases hk:o j<;>rw[hk]at h h2<;>simp[fzOf]at h h2
  ·rw[<-h2,h]
  ·rw[<-h2,h]
  ·rw[<-h2,h]
theorem SR.fzCells(R:SR b0 F κ z e H){f:Nat}{cs:List Oc}(h:Z.fzO.fzC f z cs=some z'): ∃F',Fzd b0 κ e H F z F' z'/\(∀us xs,z.lkC cs=some us->OcsR H F κ z.o cs xs->UCs H F' us xs)/\ ∀j cs',z.o j= .ob cs'->z'.o j= .ob cs':=by
 obtain⟨F',h1,h2,h3,h4,h5⟩:=SR.fzCs f R h
 refine⟨F',h1,fun us xs hus hr=> ?_,h5⟩
 have key: ∀{ds:List Oc} {us:List U} {xs:List C},(∀j, .h j∈ds-> .h j∈cs)->z.lkC ds=some us->OcsR H F κ z.o ds xs->UCs H F' us xs:=by
  intro ds
  induction ds with
  |nil=>intro us xs _ h hr;simp only[Z.lkC,Z.look.lookC,oI]at h;subst h;exact hr
  |cons d ds ih=>
   intro us xs hs h hr
   obtain⟨y,ys,k1,k2,k3⟩:=hr
   cases d with
   |u x=>
    simp only[Z.lkC,Z.look.lookC,oM]at h
    obtain⟨us',hus,rfl⟩:=h
    exact⟨y,ys,k1,k2.1,k2.2.mono h1.le,ih (fun j hj=>hs j (by simp[hj])) hus k3⟩
   |h j=>
    simp only[Z.lkC,Z.look.lookC]at h
    obtain⟨u,hu,h⟩:=oB.1 h
    simp only[oM]at h
    obtain⟨us',hus,rfl⟩:=h
    obtain⟨v,g1,g2⟩:=h4 j (hs j (by simp))
    have:=Q0b g1 hu
    subst this
    have hob:=h1.sr.ob j
    rw[g2]at hob
    have hn:(z.o j).isNone=false:=by cases hj:z.o j<;>rw[hj]at g1<;>first |rfl |cases g1
    have hy:y=κ j:=k2.resolve_left (by rw[hn];simp)
    subst hy
    exact⟨_,ys,k1,hob.1,hob.2,ih (fun j hj=>hs j (by simp[hj])) hus k3⟩
 exact key (fun _ h=>h) hus hr
theorem SR.fzO(R:SR b0 F κ z e H){f k:Nat}{u:U}(hu:z.lk k=some u)(h:z.fzO f k=some z'): ∃F',Fzd b0 κ e H F z F' z'/\u.isSt=false/\UC H F' u [κ k]:=by
 cases f with
 |zero=>simp[Z.fzO]at h
 |succ f=>
  simp only[Z.fzO]at h
  have done: ∀{F':Nat->Prop} {z':Z} {u':U},Fzd b0 κ e H F z F' z'->z'.o k= .fz u'->u'=u-> ∃F',Fzd b0 κ e H F z F' z'/\u.isSt=false/\UC H F' u [κ k]:=fun{F' z' u'} h1 h2 h3=>by
   have hob:=h1.sr.ob k
   rw[h2,h3]at hob
   exact⟨F',h1,hob.1,hob.2⟩
  split at h
  ·rename_i s hk
   cases h
   exact done (R.fzSl hk) (setO_same _ _ _) (Q0b (o:=z.o) (f:=4) (j:=k) (by rw[hk];rfl) hu).symm
  ·rename_i v hk
   cases h
   exact done (R.fzOa hk) (setO_same _ _ _) (Q0b (o:=z.o) (f:=4) (j:=k) (by rw[hk];rfl) hu).symm
  ·rename_i v hk
   cases h
   exact done (.refl R) hk (Q0b (o:=z.o) (f:=4) (j:=k) (by rw[hk];rfl) hu).symm
  ·rename_i cs hk
   rw[hu,oS]at h
   simp only[oM]at h
   obtain⟨z1,hz1,rfl⟩:=h
   obtain⟨F1,h1,h2,h3⟩:=R.fzCells hz1
   have hk1:z1.o k= .ob cs:=h3 k cs hk
   have hob1:=h1.sr.ob k
   rw[hk1]at hob1
   have hob:=R.ob k
   rw[hk]at hob
   have hlook: ∃us,Z.look.lookC (Z.look z.o 3) cs=some us/\u= .ref (.st us) 0:=by
    simp only[Z.lk,Z.look,hk,oM]at hu
    obtain⟨us,h4,h5⟩:=hu
    exact⟨us,by simpa only[Z.look]using h4,h5.symm⟩
   obtain⟨us,hus,rfl⟩:=hlook
   have huc:UC H (fun i=>F1 i\/Owns z1.o κ k i) (.ref (.st us) 0) [κ k]:=by
    refine hob.ob_uc (fun i hi=> .inr ⟨by rw[hk1];rfl,hi⟩) fun xs hxs=> ?_
    have key: ∀{ds:List Oc} {us:List U},Z.look.lookC (Z.look z.o 3) ds=some us->(∀j, .h j∈ds-> ∃v,fzOf (z.o j)=some v)->z.lkC ds=some us:=by
     intro ds
     induction ds with
     |nil=>intro us h _;exact h
     |cons d ds ih=>
      intro us h hs
      cases d with
      |u x=>
       simp only[Z.lkC,Z.look.lookC,oM]at h⊢
       obtain⟨us',hus,rfl⟩:=h
       exact⟨us',ih hus fun j hj=>hs j (by simp[hj]),rfl⟩
      |h j=>
       simp only[Z.lkC,Z.look.lookC]at h⊢
       obtain⟨u,hu,h⟩:=oB.1 h
       simp only[oM]at h
       obtain⟨us',hus,rfl⟩:=h
       obtain⟨v,hv⟩:=hs j (by simp)
       have:=Q0b hv hu
       subst this
       have h4:Z.look z.o 4 j=some u:=by
        simp only[Z.look]
        cases hj:z.o j<;>rw[hj]at hv<;>simp[fzOf]at hv<;>simp[hv]
       rw[h4,oS]
       have:=ih hus fun j hj=>hs j (by simp[hj])
       simp only[Z.lkC]at this
       rw[this];rfl
    obtain⟨_,_,_,_,g4,_⟩:=SR.fzCs f R hz1
    exact(h2 us xs (key hus fun j hj=>by obtain⟨v,hv,_⟩:=g4 j hj;exact⟨v,hv⟩) hxs).mono ⟨fun _ h=> .inl h,fun _ _=>rfl⟩
   exact⟨_,h1.trans (h1.sr.fz1 (.inl (by rw[hk1];rfl)) ⟨rfl,huc⟩),rfl,huc⟩
  ·cases h
theorem SR.yf(R:SR b0 F κ z e H){x:X}{u:U}(h:yf z x=some (u,z')): ∃v F',ev e x=some v/\Fzd b0 κ e H F z F' z'/\UV H F' u v:=by
 have same: ∀{x:X} {u:U},(∀p,x≠ .t p)->Vm.yl z x=some u-> ∃v,ev e x=some v/\UV H F u v:=by
  intro x u hx h
  cases x with
  |t p=>exact absurd rfl (hx p)
  |f g=>cases h;exact⟨_,rfl,rfl,[],[],rfl,rfl,rfl⟩
  |c v=>
   cases v with
   |c x=>obtain⟨h1,h2⟩:=Q0a (H:=H) (F:=F) h;exact⟨_,rfl,h1,h2⟩
   |agg cs=>
    simp only[Vm.yl,oM]at h
    obtain⟨us,hus,rfl⟩:=h
    exact⟨_,rfl,us,rfl,z0m hus⟩
   |tuple vs=>cases h
 cases x with
 |c v=>
  simp only[Vm.yf,oM,Prod.mk.injEq]at h
  obtain⟨w,hw,rfl,rfl⟩:=h
  obtain⟨v',h1,h2⟩:=same (fun p hp=>by cases hp) hw
  exact⟨v',F,h1, .refl R,h2⟩
 |f g=>
  simp only[Vm.yf,oM,Prod.mk.injEq]at h
  obtain⟨w,hw,rfl,rfl⟩:=h
  obtain⟨v',h1,h2⟩:=same (fun p hp=>by cases hp) hw
  exact⟨v',F,h1, .refl R,h2⟩
 |t p=>
  have hs:=R.sl p
  simp only[Vm.yf]at h
  simp only[ev]
  cases hp:z.s p with
  |val w=>
   rw[hp]at h hs;cases h
   obtain⟨v,h1,h2⟩:=hs
   exact⟨v,F,by rw[h1], .refl R,h2⟩
  |agg cs=>
   rw[hp]at h hs
   simp only at h
   obtain⟨us,hus,h⟩:=oB.1 h
   simp only[oM,Prod.mk.injEq]at h
   obtain⟨z1,hz1,rfl,rfl⟩:=h
   obtain⟨xs,h1,h2⟩:=hs
   obtain⟨F1,k1,k2,_⟩:=R.fzCells hz1
   exact⟨.agg xs,F1,by rw[h1],k1,us,rfl,k2 us xs hus h2⟩
  |h k=>
   rw[hp]at h hs
   simp only at h
   obtain⟨w,hw,h⟩:=oB.1 h
   simp only[oM,Prod.mk.injEq]at h
   obtain⟨z1,hz1,rfl,rfl⟩:=h
   obtain⟨g1,_,_⟩:=R.lk hw
   obtain⟨F1,k1,k2,k3⟩:=R.fzO hw hz1
   exact⟨.c (κ k),F1,by rw[hs.resolve_left (by rw[g1];simp)],k1,k2,k3⟩
  |w k lo n=>
   rw[hp]at h hs
   simp only at h
   split at h
   ·rename_i s hk
    cases h
    simp only[YR,hk]at hs
    have hob:=R.ob k
    rw[hk]at hob
    have hz:=R.fzSl hk
    obtain⟨c,h1,h2⟩:=w1F (F':=fun i=>F i\/Owns z.o κ k i) hob hs hz.le (fun i hi=> .inr ⟨by rw[hk];exact hs.1,hi⟩)
    exact⟨.c c,_,by rw[h1],hz,rfl,h2⟩
   ·cases h
  |oaddr k c=>
   rw[hp]at h hs
   simp only at h
   split at h
   ·rename_i v o hk
    cases h
    have hob:=R.ob k
    rw[hk]at hob
    obtain⟨i,h1,h2⟩:=hs.resolve_left (by rw[hk];simp[Ob.isNone])
    obtain⟨i',q,zz,cs,n,g1,g2,g3,g4,g5⟩:=hob.2
    rw[h1]at g1
    simp only[List.cons.injEq,C.ptr.injEq,and_true]at g1
    obtain⟨rfl,g1⟩:=g1
    refine⟨.c (.ptr i c),F,by rw[h2], .refl R,rfl,i,q,zz,cs,n, ?_,g2,g3,g4,g5⟩
    simp;omega
   ·cases h
  |_=>rw[hp]at h;cases h
end
section
variable{b0:Nat}{F:Nat->Prop}{κ:Nat->C}{z:Z}{e:Env}{H:Heap}
theorem UV.c_eq{x:C}{v:V}(h:UV H F (.c x) v):v= .c x:=by
 cases v with
 |c c=>have:=h.2.2;simp only[List.cons.injEq,and_true]at this;rw[this]
 |agg xs=>obtain⟨us,h,_⟩:=h;cases h
 |tuple vs=>exact h.elim
theorem j0K{u:U}{x:C}(h:u.asC=some x):u= .c x:=by cases u<;>simp[U.asC]at h;rw[h]
theorem SR.ylC(R:SR b0 F κ z e H){x:X}{u:U}{c:C}(h:Vm.yl z x=some u)(hc:u.asC=some c):evC e x=some c:=by
 obtain⟨v,h1,h2⟩:=R.yl h
 rw[j0K hc]at h2
 simp only[evC,h1,oS,h2.c_eq,V.asC]
theorem SR.ylI(R:SR b0 F κ z e H){x:X}{k:IntKind}{n:Int}(h:Vm.ylI k z x=some n):evI k e x=some n:=by
 obtain⟨u,hu,h⟩:=oB.1 h
 obtain⟨c,hc,h⟩:=oB.1 h
 simp only[evI,R.ylC hu hc,oS,h]
theorem SR.ylB(R:SR b0 F κ z e H){x:X}{b:Bool}(h:Vm.ylB z x=some b):evB e x=some b:=by
 obtain⟨u,hu,h⟩:=oB.1 h
 obtain⟨c,hc,h⟩:=oB.1 h
 simp only[evB,R.ylC hu hc,oS,h]
theorem SR.ylS(R:SR b0 F κ z e H){x:X}{s:ByteArray}(h:Vm.ylS z x=some s): ∃c,evC e x=some c/\c.asS=some s:=by
 obtain⟨u,hu,h⟩:=oB.1 h
 obtain⟨c,hc,h⟩:=oB.1 h
 exact⟨c,R.ylC hu hc,h⟩
theorem SR.ylIx(R:SR b0 F κ z e H){x:X}{n:Int}(h:Vm.ylIx z x=some n): ∃c,evC e x=some c/\c.asIx=some n:=by
 obtain⟨u,hu,h⟩:=oB.1 h
 obtain⟨c,hc,h⟩:=oB.1 h
 exact⟨c,R.ylC hu hc,h⟩
theorem SR.ylLo(R:SR b0 F κ z e H){x:Option X}{n:Int}(h:Vm.ylLo z x=some n):evLo e x=some n:=by
 cases x with
 |none=>exact h
 |some x=>obtain⟨c,h1,h2⟩:=R.ylIx h;simp only[evLo,h1,oS,h2]
theorem SR.ylHi(R:SR b0 F κ z e H){x:Option X}{n:Option Int}(h:Vm.ylHi z x=some n):evHi e x=some n:=by
 cases x with
 |none=>exact h
 |some x=>
  simp only[Vm.ylHi,oM]at h
  obtain⟨m,h,rfl⟩:=h
  obtain⟨c,h1,h2⟩:=R.ylIx h;simp only[evHi,h1,oS,h2,Option.map_some]
theorem SR.yptr(R:SR b0 F κ z e H){A:Type}{x:X}{Kl Ko:Nat->Nat->Option A}{Ke:Nat->Nat->Nat->Option A}{Kf:U->Nat->Option A}{r:A}(h:yptr z x Kl Ko Ke Kf=some r):
  (∃q c cs xs,Kl q c=some r/\z.s q= .loc cs/\e.get q= .loc xs/\OcsR H F κ z.o cs xs/\ ∀{R2:Type} (Kl' Ko':Nat->Nat->Option R2),placeK e x Kl' Ko'=Kl' q c)\/
  (∃k c i,Ko k c=some r/\((∃cs,z.o k= .ob cs)\/ ∃v,z.o k= .oa v)/\κ k= .ptr i 0/\ ∀{R2:Type} (Kl' Ko':Nat->Nat->Option R2),placeK e x Kl' Ko'=Ko' i c)\/
  (∃k j c s i p m,Ke k j c=some r/\z.o k= .sl s/\s.b=true/\κ k= .slice i p m/\j<s.es.length/\ ∀{R2:Type} (Kl' Ko':Nat->Nat->Option R2),placeK e x Kl' Ko'=Ko' i (p+j*s.sz+c))\/
  (∃v o i q zz cs n,Kf v o=some r/\F i/\H.get i=some (.cells zz cs)/\q+n<=cs.length/\UC H F v ((cs.drop q).take n)/\ ∀{R2:Type} (Kl' Ko':Nat->Nat->Option R2),placeK e x Kl' Ko'=Ko' i (q+o)):=by
 cases x with
 |c v=>cases h
 |f g=>cases h
 |t p=>
  have hs:=R.sl p
  simp only[Vm.yptr]at h
  have hval: ∀{i o:Nat} {R2:Type} (Kl' Ko':Nat->Nat->Option R2),e.get p= .val (.c (.ptr i o))->placeK e (.t p) Kl' Ko'=Ko' i o:=fun Kl' Ko' ht=>by
   simp only[placeK,ht,V.asP,V.asC,oS]
  cases hp:z.s p with
  |loc cs=>
   rw[hp]at h hs
   obtain⟨xs,h1,h2⟩:=hs
   exact .inl ⟨p,0,cs,xs,h,hp,h1,h2,fun Kl' Ko'=>by simp only[placeK,h1]⟩
  |addr q c=>
   rw[hp]at h hs
   simp only[YR]at hs
   simp only at h
   split at h
   ·rename_i cs hq
    rw[hq]at hs
    have hsq:=R.sl q
    rw[hq]at hsq
    obtain⟨xs,h1,h2⟩:=hsq
    exact .inl ⟨q,c,cs,xs,h,hq,h1,h2,fun Kl' Ko'=>by simp only[placeK,hs]⟩
   ·cases h
  |h k=>
   rw[hp]at h hs
   simp only at h
   have hob:=R.ob k
   split at h
   ·rename_i u hk
    rw[hk]at hob
    obtain⟨a,ha,h⟩:=oB.1 h
    have ht:=hs.resolve_left (by rw[hk];simp[Ob.isNone])
    cases u<;>simp[U.asR]at ha
    subst ha
    obtain⟨i,q,zz,cs,n,g1,g2,g3,g4,g5⟩:=hob.2
    simp only[List.cons.injEq,and_true]at g1
    rw[g1]at ht
    exact .inr (.inr (.inr ⟨_,_,i,q,zz,cs,n,h,g2,g3,g4,g5,fun Kl' Ko'=>hval Kl' Ko' ht⟩))
   ·rename_i cs hk
    rw[hk]at hob
    have ht:=hs.resolve_left (by rw[hk];simp[Ob.isNone])
    obtain⟨i,_,_,g1,_⟩:=hob
    rw[g1]at ht
    exact .inr (.inl ⟨k,0,i,h, .inl ⟨cs,hk⟩,g1,fun Kl' Ko'=>hval Kl' Ko' ht⟩)
   ·rename_i v hk
    rw[hk]at hob
    have ht:=hs.resolve_left (by rw[hk];simp[Ob.isNone])
    obtain⟨i,_,_,g1,_⟩:=hob
    rw[g1]at ht
    exact .inr (.inl ⟨k,0,i,h, .inr ⟨v,hk⟩,g1,fun Kl' Ko'=>hval Kl' Ko' ht⟩)
   ·cases h
  |oaddr k c=>
   rw[hp]at h hs
   simp only at h
   have hob:=R.ob k
   split at h
   ·rename_i u hk
    rw[hk]at hob
    obtain⟨a,ha,h⟩:=oB.1 h
    obtain⟨i0,g0,ht⟩:=hs.resolve_left (by rw[hk];simp[Ob.isNone])
    cases u<;>simp[U.asR]at ha
    subst ha
    obtain⟨i,q,zz,cs,n,g1,g2,g3,g4,g5⟩:=hob.2
    rw[g0]at g1
    simp only[List.cons.injEq,C.ptr.injEq,and_true]at g1
    obtain⟨rfl,g1⟩:=g1
    refine .inr (.inr (.inr ⟨_,_,i0,q,zz,cs,n,h,g2,g3,g4,g5,fun Kl' Ko'=> ?_⟩))
    rw[hval Kl' Ko' ht];congr 1;simp only;omega
   ·rename_i cs hk
    obtain⟨i0,g0,ht⟩:=hs.resolve_left (by rw[hk];simp[Ob.isNone])
    exact .inr (.inl ⟨k,c,i0,h, .inl ⟨cs,hk⟩,g0,fun Kl' Ko'=>hval Kl' Ko' ht⟩)
   ·rename_i v hk
    obtain⟨i0,g0,ht⟩:=hs.resolve_left (by rw[hk];simp[Ob.isNone])
    exact .inr (.inl ⟨k,c,i0,h, .inr ⟨v,hk⟩,g0,fun Kl' Ko'=>hval Kl' Ko' ht⟩)
   ·cases h
  |eaddr k j c=>
   rw[hp]at h hs
   simp only at h
   split at h
   ·rename_i s hk
    simp only[YR,hk]at hs
    obtain⟨hb,i,q,m,g1,g2,g3⟩:=hs
    exact .inr (.inr (.inl ⟨k,j,c,s,i,q,m,h,hk,hb,g1,g3,fun Kl' Ko'=>hval Kl' Ko' g2⟩))
   ·cases h
  |val u=>
   rw[hp]at h hs
   obtain⟨v,h1,h2⟩:=hs
   obtain⟨a,ha,h⟩:=oB.1 h
   cases u<;>simp[U.asR]at ha
   subst ha
   cases v with
   |c c=>
    obtain⟨i,q,zz,cs,n,g1,g2,g3,g4,g5⟩:=h2.2
    simp only[List.cons.injEq,and_true]at g1
    rw[g1]at h1
    exact .inr (.inr (.inr ⟨_,_,i,q,zz,cs,n,h,g2,g3,g4,g5,fun Kl' Ko'=>hval Kl' Ko' h1⟩))
   |agg xs=>obtain⟨us,h2,_⟩:=h2;cases h2
   |tuple vs=>exact h2.elim
  |_=>rw[hp]at h;cases h
theorem SR.ysl(R:SR b0 F κ z e H){A:Type}{x:X}{Ko:Nat->Sx->Option A}{Kf:U->Option A}{r:A}(h:ysl z x Ko Kf=some r):
  (∃k s,Ko k s=some r/\z.o k= .sl s/\evC e x=some (κ k))\/(∃u v,Kf u=some r/\ev e x=some v/\UV H F u v):=by
 cases x with
 |c v=>
  simp only[Vm.ysl]at h
  obtain⟨u,hu,h9⟩:=oB.1 h
  clear h
  cases v with
  |c x=>obtain⟨h1,h2⟩:=Q0a (H:=H) (F:=F) hu;exact .inr ⟨u,_,h9,rfl,h1,h2⟩
  |agg cs=>
   simp only[Vm.yl,oM]at hu
   obtain⟨us,hus,rfl⟩:=hu
   exact .inr ⟨_, .agg cs,h9,rfl,us,rfl,z0m hus⟩
  |tuple vs=>cases hu
 |f g=>
  simp only[Vm.ysl,Vm.yl,oS]at h
  exact .inr ⟨_,_,h,rfl,rfl,[],[],rfl,rfl,rfl⟩
 |t p=>
  have hs:=R.sl p
  simp only[Vm.ysl]at h
  cases hp:z.s p with
  |h k=>
   rw[hp]at h hs
   simp only at h
   split at h
   ·rename_i s hk
    have ht:=hs.resolve_left (by rw[hk];simp[Ob.isNone])
    exact .inl ⟨k,s,h,hk,by simp[evC,ev,ht]⟩
   ·rename_i u hk
    have ht:=hs.resolve_left (by rw[hk];simp[Ob.isNone])
    have hob:=R.ob k
    rw[hk]at hob
    exact .inr ⟨u, .c (κ k),h,by simp[ev,ht],hob⟩
   ·cases h
  |val u=>
   rw[hp]at h hs
   obtain⟨v,h1,h2⟩:=hs
   exact .inr ⟨u,v,h,by simp[ev,h1],h2⟩
  |_=>rw[hp]at h;cases h
structure Adv (b0:Nat) (F:Nat->Prop) (H:Heap) (F':Nat->Prop) (H':Heap) (quiet:Prop):Prop where
 next:H.next<=H'.next
 low: ∀i,i<b0->H'.get i=H.get i
 le:FLe H F H' F'
 from_: ∀i,F' i->F i\/b0<=i
 gentle:quiet-> ∀i,i<H.next->H'.get i=H.get i
theorem Adv.refl(b0:Nat)(F:Nat->Prop)(H:Heap)(q:Prop):Adv b0 F H F H q:=⟨nR _,fun _ _=>rfl, .refl _ _,fun _ h=> .inl h,fun _ _ _=>rfl⟩
theorem Adv.trans{F' F'':Nat->Prop}{H' H'':Heap}{q:Prop}(h:Adv b0 F H F' H' q)(k:Adv b0 F' H' F'' H'' q):Adv b0 F H F'' H'' q:=
 ⟨nT h.next k.next,fun i hi=>(k.low i hi).trans (h.low i hi),h.le.trans k.le,fun i hi=>(k.from_ i hi).elim (h.from_ i) .inr,
  fun hq i hi=>(k.gentle hq i (nL hi h.next)).trans (h.gentle hq i hi)⟩
theorem Adv.weak{F':Nat->Prop}{H':Heap}{q q':Prop}(h:Adv b0 F H F' H' q)(hq:q'->q):Adv b0 F H F' H' q':=⟨h.next,h.low,h.le,h.from_,fun h'=>h.gentle (hq h')⟩
theorem Fzd.adv{F':Nat->Prop}{z':Z}(R:SR b0 F κ z e H)(h:Fzd b0 κ e H F z F' z')(q:Prop):Adv b0 F H F' H q:=
 ⟨nR _,fun _ _=>rfl,h.le,fun i hi=>(h.from_ i hi).imp id fun⟨k,hk⟩=>((R.ob k).id hk.1 hk.2).1,fun _ _ _=>rfl⟩
def nameOf(z:Z)(x:X):Option Nat:=
 match x with
 | .t p=>match z.s p with
  | .h k | .oaddr k _ | .eaddr k _ _=>some k
  |_=>none
 |_=>none
def tName(z:Z):ROp->Option Nat
 | .stH _ a _=>nameOf z a
 | .app _ s _=>nameOf z s
 |_=>none
theorem K0p{z z':Z}(h:z'.s=z.s)(o:ROp):tName z' o=tName z o:=by
 cases o<;>simp only[tName,nameOf,h]
def Out(lim:Nat)(call:CallT)(b0:Nat)(F:Nat->Prop)(κ:Nat->C)(z:Z)(e:Env)(H:Heap)(o:ROp)(y:Y)(z':Z):Prop:=
 ∃(F':Nat->Prop) (κ':Nat->C) (t:T) (H':Heap),(∀{R2:Type} (K2:T->Heap->Option R2),evalOp lim call e H o K2=K2 t H')/\SR b0 F' κ' z' e H'/\YR H' F' κ' z'.o z'.s y t/\Adv b0 F H F' H' (o.mutes=false)/\
  z.n<=z'.n/\z'.s=z.s/\(∀k,z'.n<=k->k<base-> ¬y.refs k)/\(∀cs,y≠ .loc cs)/\(∀k i,Owns z'.o κ' k i->Owns z.o κ k i\/H.next<=i)/\ ∀i,i<H.next->H'.get i=H.get i\/ ∃k,tName z o=some k/\Owns z.o κ k i
theorem Out.val{lim:Nat}{call:CallT}(R:SR b0 F κ z e H){o:ROp}{u:U}{v:V}(h: ∀{R2:Type} (K2:T->Heap->Option R2),evalOp lim call e H o K2=K2 (.val v) H)(hv:UV H F u v):Out lim call b0 F κ z e H o (.val u) z:=
 ⟨F,κ, .val v,H,h,R,⟨v,rfl,hv⟩, .refl _ _ _ _,nR _,rfl,fun _ _ _ h=>h,(fun _ h=>by cases h),fun _ _ h=> .inl h,fun _ _=> .inl rfl⟩
theorem Out.c{lim:Nat}{call:CallT}(R:SR b0 F κ z e H){o:ROp}{x:C}(hx:x.flat=true)(h: ∀{R2:Type} (K2:T->Heap->Option R2),evalOp lim call e H o K2=K2 (.val (.c x)) H):Out lim call b0 F κ z e H o (.val (.c x)) z:=
 Out.val R h ⟨rfl,hx,rfl⟩
end
section
variable{b0:Nat}{F:Nat->Prop}{κ:Nat->C}{z:Z}{e:Env}{H:Heap}
def nameK(κ:Nat->C)(n:Nat)(c:C):Nat->C:=fun k=>if k=n then c else κ k
def nameO(o:Nat->Ob)(n:Nat)(b:Ob):Nat->Ob:=fun j=>bif Nat.beq j n then b else o j
theorem z0L(o:Nat->Ob)(n:Nat)(b:Ob):nameO o n b n=b:=by simp[nameO]
theorem j0L(o:Nat->Ob){n j:Nat}(b:Ob)(h:j≠n):nameO o n b j=o j:=by simp[nameO,cond_eq_ite,Nat.beq_eq,h]
theorem q0k(κ:Nat->C)(n:Nat)(c:C):nameK κ n c n=c:=by simp[nameK]
theorem z0M(κ:Nat->C){n j:Nat}(c:C)(h:j≠n):nameK κ n c j=κ j:=by simp[nameK,h]
theorem w0x{o:Nat->Ob}{n:Nat}{b:Ob}{c:C}{k i:Nat}(h:Owns (nameO o n b) (nameK κ n c) k i):(k=n/\b.live=true/\idC c=some i)\/(k≠n/\Owns o κ k i):=by
 by_cases hk:k=n
 ·subst hk;rw[Owns,z0L,q0k]at h;exact .inl ⟨rfl,h⟩
 ·rw[Owns,j0L o b hk,z0M κ c hk]at h;exact .inr ⟨hk,h⟩
theorem SR.new(R:SR b0 F κ z e H)(hz:z.n<base){b:Ob}{c:C}{H':Heap}{F':Nat->Prop}(m:FLe H F H' F')(hF: ∀i,F' i->F i\/H.next<=i)(hFl: ∀i,F' i->i<H'.next)(hn:H.next<=H'.next)(hg: ∀i,i<H.next->H'.get i=H.get i)
  (hob:ObR H' F' (nameK κ z.n c) (nameO z.o z.n b) b0 z.n b) (hid:b.live=true-> ∀i,idC c=some i->H.next<=i/\ ¬F' i) (hbr: ∀k,z.n<=k->k<base-> ¬b.refs k):
  SR b0 F' (nameK κ z.n c) ⟨z.s,nameO z.o z.n b,z.n+1⟩ e H':=by
 have hold: ∀k,(k<z.n\/base<=k)->nameK κ z.n c k=κ k/\nameO z.o z.n b k=z.o k:=fun k hk=>by
  have:k≠z.n:=by omega
  exact⟨z0M κ c this,j0L z.o b this⟩
 have hown: ∀k i,Owns (nameO z.o z.n b) (nameK κ z.n c) k i->(k=z.n/\H.next<=i/\ ¬F' i)\/(k≠z.n/\Owns z.o κ k i):=fun k i h=>by
  by_cases hk:k=z.n
  ·subst hk
   rw[Owns,z0L,q0k]at h
   exact .inl ⟨rfl,hid h.1 i h.2⟩
  ·rw[Owns,j0L z.o b hk,z0M κ c hk]at h
   exact .inr ⟨hk,h⟩
 have hlt: ∀k i,Owns z.o κ k i->i<H.next:=fun k i h=>((R.ob k).id h.1 h.2).2.1
 refine R.step m hn rfl (Nat.le_succ _) (fun k hk=> ?_) (fun k=> ?_) (fun k k' i h1 h2=> ?_) (fun k i h1 h2=> ?_) hFl fun k h1 h2=>⟨fun j=> ?_, ?_⟩
 ·obtain⟨h1,h2⟩:=hold k hk;exact⟨h1,by show Compat (z.o k) (nameO z.o z.n b k);rw[h2];exact Compat.refl _⟩
 ·show ObR H' F' (nameK κ z.n c) (nameO z.o z.n b) b0 k (nameO z.o z.n b k)
  by_cases hk:k=z.n
  ·subst hk;rw[z0L];exact hob
  ·rw[j0L z.o b hk]
   refine(R.ob k).mono m hn (z0M κ c hk) (fun i g1 g2=>hg i (hlt k i ⟨g1,g2⟩)) fun j hj=> ?_
   by_cases hjn:j<z.n\/base<=j
   ·obtain⟨h1,h2⟩:=hold j hjn;exact⟨h1,by rw[h2];exact Compat.refl _⟩
   ·exact absurd hj ((R.fo j (by omega) (by omega)).1 k)
 ·rcases hown k i h1 with⟨g1,g2,_⟩ |⟨g1,g2⟩<;>rcases hown k' i h2 with⟨g3,g4,_⟩ |⟨g3,g4⟩
  ·rw[g1,g3]
  ·have:=hlt k' i g4;omega
  ·have:=hlt k i g2;omega
  ·exact R.inj k k' i g2 g4
 ·rcases hown k i h1 with⟨_,_,g3⟩ |⟨g1,g2⟩
  ·exact g3 h2
  ·rcases hF i h2 with h3 |h3
   ·exact R.disj k i g2 h3
   ·have:=hlt k i g2;omega
 ·show¬(nameO z.o z.n b j).refs k
  by_cases hj:j=z.n
  ·subst hj;rw[z0L];exact hbr k (by simp at h1;omega) h2
  ·rw[j0L z.o b hj];exact(R.fo k (by simp at h1;omega) h2).1 j
 ·show nameO z.o z.n b k= .none
  have:k≠z.n:=by simp at h1;omega
  rw[j0L z.o b this];exact(R.fo k (by simp at h1;omega) h2).2
theorem w0y{R:Type}{b:Ob}{K:Y->Z->Option R}{r:R}(h:z.new b K=some r):z.n<base/\K (.h z.n) ⟨z.s,nameO z.o z.n b,z.n+1⟩=some r:=by
 unfold Z.new at h
 split at h
 ·rename_i hz;exact⟨hz,h⟩
 ·cases h
theorem k0b{A:Type}: ∀{cs:List C} {κ:Nat->C} {z:Z} {K:List Oc->Z->Option A} {r:A},SR b0 F κ z e H->z.zeros cs K=some r->
  ∃ocs z' κ',K ocs z'=some r/\SR b0 F κ' z' e H/\OcsR H F κ' z'.o ocs cs/\z.n<=z'.n/\z'.s=z.s/\(∀k,z'.n<=k->k<base-> ∀c∈ocs,¬c.refs k)/\(∀k,(k<z.n\/base<=k)->κ' k=κ k/\z'.o k=z.o k)/\ ∀k i,Owns z'.o κ' k i->Owns z.o κ k i
 | [],κ,z,K,r,R,h=>⟨[],z,κ,h,R,rfl,nR _,rfl,fun _ _ _ _ h=>(by cases h),fun _ _=>⟨rfl,rfl⟩,fun _ _ h=>h⟩
 |c::cs,κ,z,K,r,R,h=>by
  have other: ∀(u:U),U.of c=some u->z.zeros cs (fun r z'=>K (.u u::r) z')=some r-> ∃ocs z' κ',K ocs z'=some r/\SR b0 F κ' z' e H/\OcsR H F κ' z'.o ocs (c::cs)/\z.n<=z'.n/\z'.s=z.s/\(∀k,z'.n<=k->k<base-> ∀c∈ocs,¬c.refs k)/\(∀k,(k<z.n\/base<=k)->κ' k=κ k/\z'.o k=z.o k)/\ ∀k i,Owns z'.o κ' k i->Owns z.o κ k i:=by
   intro u hu h
   obtain⟨ocs,z',κ',h1,h2,h3,h4,h5,h6,h7,h8⟩:=k0b R h
   obtain⟨g1,g2⟩:=Q0a (H:=H) (F:=F) hu
   exact⟨.u u::ocs,z',κ',h1,h2,⟨c,cs,rfl,⟨g1,g2⟩,h3⟩,h4,h5,fun k hk hb d hd=>by
    rcases mC.1 hd with rfl |hd
    ·exact fun h=>h
    ·exact h6 k hk hb d hd,h7,h8⟩
  by_cases hc:c= .nilSlice
  ·subst hc
   obtain⟨hz,h⟩:=w0y h
   have R1:SR b0 F (nameK κ z.n .nilSlice) ⟨z.s,nameO z.o z.n (.sl .nil),z.n+1⟩ e H:=
    R.new hz (.refl _ _) (fun _ h=> .inl h) R.flt (nR _) (fun _ _=>rfl) (.inl ⟨rfl,rfl,q0k _ _ _⟩) (fun h=>by cases h) (fun _ _ _ h=>h)
   obtain⟨ocs,z',κ',h1,h2,h3,h4,h5,h6,h7,h8⟩:=k0b R1 h
   simp only at h4 h5
   refine⟨.h z.n::ocs,z',κ',h1,h2,⟨_,cs,rfl, .inr ?_,h3⟩,by omega,h5,fun k hk hb d hd=> ?_,fun k hk=> ?_,fun k i hki=> ?_⟩
   ·have:=(h7 z.n (.inl (by simp))).1
    rw[this,q0k]
   ·rcases mC.1 hd with rfl |hd
    ·simp only[Oc.refs];omega
    ·exact h6 k hk hb d hd
   ·have hne:k≠z.n:=by omega
    obtain⟨g1,g2⟩:=h7 k (by simp;omega)
    exact⟨by rw[g1,z0M κ _ hne],by rw[g2];exact j0L z.o _ hne⟩
   ·have:=h8 k i hki
    rcases w0x this with⟨_,g,_⟩ |⟨_,g⟩
    ·cases g
    ·exact g
  ·have h':((U.of c).bind fun u=>Z.zeros z cs fun r z'=>K (.u u::r) z')=some r:=by
    cases c<;>first |exact h |exact absurd rfl hc
   obtain⟨u,hu,h'⟩:=oB.1 h'
   exact other u hu h'
theorem OcsR.of_ucs: ∀{us:List U} {xs:List C},UCs H F us xs->OcsR H F κ z.o (us.map .u) xs
 | [],xs,h=>h
 |u::us,xs,⟨c,cs,h1,h2,h3,h4⟩=>⟨c,cs,h1,⟨h2,h3⟩,OcsR.of_ucs h4⟩
theorem Y0l: ∀(us:List U) (d:U),(List.range us.length).map (fun i=>us.getD i d)=us
 |us,d=>by
  refine List.ext_getElem? fun i=> ?_
  rw[List.getElem?_map]
  by_cases h:i<us.length
  ·simp[h]
  ·rw[List.getElem?_eq_none (by simp;omega),List.getElem?_eq_none (by omega)];rfl
theorem SR.slotRefs(R:SR b0 F κ z e H){p k:Nat}{y:Y}(hp:z.s p=y)(h1:z.n<=k)(h2:k<base): ¬y.refs k:=by rw[<-hp];exact R.fs k h1 h2 p
theorem SR.ypart(R:SR b0 F κ z e H){A:Type}{n:Nat}{x:X}{K:List Oc->Z->Option A}{r:A}(h:ypart z n x K=some r):
  ∃cs z' F' v xs,K cs z'=some r/\ev e x=some v/\v.cells=some xs/\Fzd b0 κ e H F z F' z'/\OcsR H F' κ z'.o cs xs/\ ∀k,z.n<=k->k<base-> ∀c∈cs,¬c.refs k:=by
 have ucsR: ∀{u:U} {v:V} {z':Z} {F':Nat->Prop} {K:List Oc->Option A},ucs n u K=some r->UV H F' u v-> ∃cs xs,K cs=some r/\v.cells=some xs/\OcsR H F' κ z'.o cs xs/\ ∀k,∀c∈cs,¬c.refs k:=by
  intro u v z' F' K h hv
  unfold ucs at h
  split at h
  ·obtain⟨w,hw,h9⟩:=oB.1 h
   clear h
   have hwu:w=u/\u.isSt=false:=by cases u<;>simp[U.one]at hw<;>simp[<-hw,U.isSt]
   obtain⟨rfl,hs⟩:=hwu
   cases v with
   |c c=>exact⟨[.u w],[c],h9,rfl,⟨c,[],rfl,⟨hs,hv.2⟩,rfl⟩,fun k d hd=>by simp at hd;subst hd;exact fun h=>h⟩
   |agg xs=>obtain⟨us,h1,_⟩:=hv;rw[h1]at hs;cases hs
   |tuple vs=>exact hv.elim
  ·obtain⟨f,hf,h⟩:=oB.1 h
   cases u<;>simp[U.split]at hf
   rename_i us
   obtain⟨rfl,rfl⟩:=hf
   cases v with
   |c c=>cases hv.1
   |agg xs=>
    obtain⟨us',h1,h2⟩:=hv
    cases h1
    refine⟨_,xs,h,rfl, ?_,fun k d hd=> ?_⟩
    ·have:((List.range us.length).map fun i=>Oc.u (us.getD i (.c .junk)))=us.map .u:=by
      rw[show(fun i=>Oc.u (us.getD i (.c .junk)))=Oc.u∘fun i=>us.getD i (.c .junk)from rfl,<-List.map_map,Y0l]
     simp only[lG]at this
     rw[this]
     exact OcsR.of_ucs h2
    ·obtain⟨i,_,rfl⟩:=List.mem_map.1 hd;exact fun h=>h
   |tuple vs=>exact hv.elim
 have viaYf: ∀{x:X},((Vm.yf z x).bind fun q=>ucs n q.1 fun cs=>K cs q.2)=some r-> ∃cs z' F' v xs,K cs z'=some r/\ev e x=some v/\v.cells=some xs/\Fzd b0 κ e H F z F' z'/\OcsR H F' κ z'.o cs xs/\ ∀k,z.n<=k->k<base-> ∀c∈cs,¬c.refs k:=by
  intro x h
  obtain⟨⟨u,z'⟩,hu,h⟩:=oB.1 h
  obtain⟨v,F',h1,h2,h3⟩:=R.yf hu
  obtain⟨cs,xs,g1,g2,g3,g4⟩:=ucsR (z':=z') h h3
  exact⟨cs,z',F',v,xs,g1,h1,g2,h2,g3,fun k _ _=>g4 k⟩
 cases x with
 |t p=>
  have hs:=R.sl p
  simp only[Vm.ypart]at h
  cases hp:z.s p with
  |h k=>
   rw[hp]at h hs
   simp only at h
   have hob:=R.ob k
   split at h
   ·rename_i u hk
    rw[hk]at hob
    have ht:=hs.resolve_left (by rw[hk];simp[Ob.isNone])
    exact⟨_,z,F, .c (κ k),[κ k],h,by simp[ev,ht],rfl, .refl R,⟨_,[],rfl,hob,rfl⟩,fun j _ _ c hc=>by simp at hc;subst hc;exact fun h=>h⟩
   ·cases h
   ·rename_i hnf hnn
    have hno:(z.o k).isNone=false:=by cases hk:z.o k<;>first |rfl |exact absurd hk hnn
    have ht:=hs.resolve_left (by rw[hno];simp)
    exact⟨_,z,F, .c (κ k),[κ k],h,by simp[ev,ht],rfl, .refl R,⟨_,[],rfl, .inr rfl,rfl⟩,fun j h1 h2 c hc=>by
     simp at hc;subst hc;exact R.slotRefs hp h1 h2⟩
  |agg cs=>
   rw[hp]at h hs
   obtain⟨xs,h1,h2⟩:=hs
   exact⟨cs,z,F, .agg xs,xs,h,by simp[ev,h1],rfl, .refl R,h2,fun j g1 g2 c hc hr=>R.slotRefs hp g1 g2 ⟨c,hc,hr⟩⟩
  |_=>rw[hp]at h;exact viaYf h
 |c v=>
  simp only[Vm.ypart]at h
  refine viaYf (x:= .c v) ?_
  simp only[Vm.yf]
  obtain⟨u,hu,h'⟩:=oB.1 h
  rw[hu];exact h'
 |f g=>
  simp only[Vm.ypart]at h
  refine viaYf (x:= .f g) ?_
  simp only[Vm.yf]
  obtain⟨u,hu,h'⟩:=oB.1 h
  rw[hu];exact h'
theorem z0n{A:Type}{kd:K0}{x:U}{c:C}{K:U->Option A}{r:A}(hs:x.isSt=false)(hx:UC H F x [c])(h:x.take0 kd K=some r): ∃u c',K u=some r/\(∀{R2:Type} (K2:C->Option R2),kd.take c K2=K2 c')/\u.isSt=false/\UC H F u [c']:=by
 cases kd with
 |c=>exact⟨x,c,h,fun _=>rfl,hs,hx⟩
 |int k=>
  obtain⟨n,hn,h⟩:=oB.1 h
  obtain⟨y,hy,hn⟩:=oB.1 hn
  rw[j0K hy]at hx
  have hc:=hx.2
  simp only[List.cons.injEq,and_true]at hc
  subst hc
  exact⟨_,_,h,fun K2=>by simp only[K0.take,hn,oS],rfl,rfl,rfl⟩
 |bool=>
  obtain⟨n,hn,h⟩:=oB.1 h
  obtain⟨y,hy,hn⟩:=oB.1 hn
  rw[j0K hy]at hx
  have hc:=hx.2
  simp only[List.cons.injEq,and_true]at hc
  subst hc
  exact⟨_,_,h,fun K2=>by simp only[K0.take,hn,oS],rfl,rfl,rfl⟩
 |str=>
  obtain⟨n,hn,h⟩:=oB.1 h
  obtain⟨y,hy,hn⟩:=oB.1 hn
  rw[j0K hy]at hx
  have hc:=hx.2
  simp only[List.cons.injEq,and_true]at hc
  subst hc
  exact⟨_,_,h,fun K2=>by simp only[K0.take,hn,oS],rfl,rfl,rfl⟩
theorem z0N{v:U}{xs:List C}{k:Nat}{x:U}(hv:UC H F v xs)(h:v.cell k=some x): ∃c,xs[k]? =some c/\x.isSt=false/\UC H F x [c]:=hv.cells.get h
theorem OcsR.get: ∀{cs:List Oc} {xs:List C} {o:Nat->Ob},OcsR H F κ o cs xs-> ∀{k:Nat} {c:Oc},cs[k]? =some c-> ∃x,xs[k]? =some x/\OcR H F κ o c x
 | [],xs,o,h,k,c,hk=>by simp at hk
 |c0::cs,xs,o,⟨x,xs',h1,h2,h3⟩,0,c,hk=>by simp at hk;subst hk;exact⟨x,by rw[h1];rfl,h2⟩
 |c0::cs,xs,o,⟨x,xs',h1,h2,h3⟩,k+1,c,hk=>by
  simp at hk
  obtain⟨y,hy,h4⟩:=OcsR.get h3 hk
  exact⟨y,by rw[h1];simpa using hy,h4⟩
theorem OcsR.length: ∀{cs:List Oc} {xs:List C} {o:Nat->Ob},OcsR H F κ o cs xs->cs.length=xs.length
 | [],xs,o,h=>by rw[show xs=[]from h];rfl
 |c::cs,xs,o,⟨x,xs',h1,_,h3⟩=>by rw[h1];simp[OcsR.length h3]
theorem OcsR.drop: ∀{cs:List Oc} {xs:List C} {o:Nat->Ob} (n:Nat),OcsR H F κ o cs xs->OcsR H F κ o (cs.drop n) (xs.drop n)
 |cs,xs,o,0,h=>h
 | [],xs,o,n+1,h=>by rw[show xs=[]from h];simp[OcsR]
 |c::cs,xs,o,n+1,⟨x,xs',h1,_,h3⟩=>by rw[h1];exact OcsR.drop n h3
theorem OcsR.take: ∀{cs:List Oc} {xs:List C} {o:Nat->Ob} (n:Nat),OcsR H F κ o cs xs->OcsR H F κ o (cs.take n) (xs.take n)
 |cs,xs,o,0,h=>by simp[OcsR]
 | [],xs,o,n+1,h=>by rw[show xs=[]from h];simp[OcsR]
 |c::cs,xs,o,n+1,⟨x,xs',h1,h2,h3⟩=>by rw[h1];exact⟨x,xs'.take n,rfl,h2,OcsR.take n h3⟩
theorem SR.elem(R:SR b0 F κ z e H){k j i p m:Nat}{s:Sx}{v:U}(hk:z.o k= .sl s)(hb:s.b=true)(hκ:κ k= .slice i p m)(hj:s.es[j]? =some v): ∃cs,H.get i=some (.cells s.sz cs)/\UC H F v ((cs.drop (p+j*s.sz)).take s.sz)/\p+j*s.sz+s.sz<=cs.length:=by
 have hob:=R.ob k
 rw[hk]at hob
 rcases hob with⟨h1,_⟩ |⟨_,i',p',cs,h1,h2,h3,h4,h5,h6⟩
 ·rw[hb]at h1;cases h1
 ·rw[hκ]at h1;cases h1
  obtain⟨g1,g2⟩:=h6.get hj
  have hlt:=(gE.1 hj).1
  have hle:(j+1)*s.sz<=s.es.length*s.sz:=Nat.mul_le_mul_right _ hlt
  rw[Nat.add_mul]at hle
  refine⟨cs,h4, ?_,by omega⟩
  have e1:((((cs.drop p).take (s.es.length*s.sz)).drop (j*s.sz)).take s.sz)=(cs.drop (p+j*s.sz)).take s.sz:=by
   rw[List.drop_take,List.take_take,List.drop_drop]
   congr 1;omega
  rw[e1]at g1;exact g1
theorem z0O{cs:List C}{q n k:Nat}{c:C}(h:((cs.drop q).take n)[k]? =some c):cs[q+k]? =some c:=by
 rw[List.getElem?_take]at h
 split at h
 ·rw[List.getElem?_drop]at h;exact h
 ·cases h
theorem K0q{i o:Nat}{zz:Nat}{cs:List C}{c:C}(hg:H.get i=some (.cells zz cs))(h:cs[o]? =some c):H.ld i o=some c:=by simp only[Heap.ld,hg,h]
end
section
variable{lim:Nat}{vcall:CallT}{md:FuncId->List RM}{ycall:YCallT}{b0:Nat}{F:Nat->Prop}{κ:Nat->C}{z:Z}{e:Env}{H:Heap}{A:Type}{K:Y->Z->Option A}{r:A}
theorem Q0c(R:SR b0 F κ z e H){o:ROp}{cs:List Oc}{xs:List C}{c:Nat}{kd:K0}(hr:OcsR H F κ z.o cs xs)(hc: ∀k,z.n<=k->k<base-> ∀d∈cs,¬d.refs k)
  (hev: ∀{R2:Type} (K2:T->Heap->Option R2) x,xs[c]? =some x->evalOp lim vcall e H o K2=kd.take x fun y=>K2 (.val (.c y)) H) (h:ldC z cs c kd K=some r): ∃y z',K y z'=some r/\Out lim vcall b0 F κ z e H o y z':=by
 unfold ldC at h
 obtain⟨oc,hoc,h⟩:=oB.1 h
 obtain⟨x,hx,hor⟩:=hr.get hoc
 split at h
 ·rename_i u
  obtain⟨w,c',h1,h2,h3,h4⟩:=z0n hor.1 hor.2 h
  exact⟨_,z,h1, .val R (v:= .c c') (fun K2=>by rw[hev K2 x hx,h2]) ⟨h3,h4⟩⟩
 ·rename_i k
  split at h
  ·refine⟨_,z,h,F,κ, .val (.c x),H,fun K2=>by rw[hev K2 x hx];rfl,R, ?_, .refl _ _ _ _,nR _,rfl,fun j h1 h2=>hc j h1 h2 _ (List.mem_of_getElem? hoc),(fun _ h=>by cases h),fun _ _ h=> .inl h,fun _ _=> .inl rfl⟩
   exact hor.imp id fun h=>by rw[h]
  ·cases h
theorem k1L(R:SR b0 F κ z e H){kd:K0}{a:X}(h:evalY md ycall z (.ld kd a) K=some r): ∃y z',K y z'=some r/\Out lim vcall b0 F κ z e H (.ld kd a) y z':=by
 simp only[evalY]at h
 have hev: ∀{i o:Nat} {x:C} {R2:Type} (K2:T->Heap->Option R2),(∀{R2:Type} (Kl' Ko':Nat->Nat->Option R2),placeK e a Kl' Ko'=Ko' i o)->H.ld i o=some x->evalOp lim vcall e H (.ld kd a) K2=kd.take x fun y=>K2 (.val (.c y)) H:=fun K2 hp hx=>by
  simp only[evalOp];rw[hp,hx,oS]
 have plain: ∀{i o:Nat} {x:U} {c:C},(∀{R2:Type} (Kl' Ko':Nat->Nat->Option R2),placeK e a Kl' Ko'=Ko' i o)->H.ld i o=some c->x.isSt=false->UC H F x [c]->(x.take0 kd fun u=>K (.val u) z)=some r-> ∃y z',K y z'=some r/\Out lim vcall b0 F κ z e H (.ld kd a) y z':=by
  intro i o x c hp hl hs hx h
  obtain⟨w,c',h1,h2,h3,h4⟩:=z0n hs hx h
  exact⟨_,z,h1, .val R (v:= .c c') (fun K2=>by rw[hev K2 hp hl,h2]) ⟨h3,h4⟩⟩
 rcases R.yptr h with⟨q,c,cs,xs,h1,_⟩ |⟨k,c,i,h1,h2,h3,h4⟩ |⟨k,j,c,s,i,p,m,h1,h2,h3,h4,h5,h6⟩ |⟨v,o,i,q,zz,cs,n,h1,h2,h3,h4,h5,h6⟩
 ·cases h1
 ·have hob:=R.ob k
  split at h1
  ·rename_i cs hk
   rw[hk]at hob
   obtain⟨i',zz,xs,g1,g2,g3,g4,g5⟩:=hob
   rw[h3]at g1;cases g1
   exact Q0c R g5 (fun j k1 k2 d hd hr=>(R.fo j k1 k2).1 k (by rw[hk];exact⟨d,hd,hr⟩)) (fun K2 x hx=>hev K2 h4 (K0q g4 hx)) h1
  ·rename_i v hk
   rw[hk]at hob
   obtain⟨i',zz,xs,g1,g2,g3,g4,g5⟩:=hob
   rw[h3]at g1;cases g1
   obtain⟨x,hx,h1⟩:=oB.1 h1
   obtain⟨c0,k1,k2,k3⟩:=z0N g5 hx
   exact plain h4 (K0q g4 k1) k2 k3 h1
  ·cases h1
 ·simp only[ldE,h2]at h1
  obtain⟨v,hv,h1⟩:=oB.1 h1
  obtain⟨x,hx,h1⟩:=oB.1 h1
  obtain⟨cs,g1,g2,g3⟩:=R.elem h2 h3 h4 hv
  obtain⟨c0,k1,k2,k3⟩:=z0N g2 hx
  exact plain h6 (K0q g1 (z0O k1)) k2 k3 h1
 ·obtain⟨x,hx,h1⟩:=oB.1 h1
  obtain⟨c0,k1,k2,k3⟩:=z0N h5 hx
  exact plain h6 (K0q h3 (z0O k1)) k2 k3 h1
end
section
variable{b0:Nat}{F:Nat->Prop}{κ:Nat->C}{z:Z}{e:Env}{H:Heap}
theorem j1G{u:U}{v:V}{nk:NK}{b:Bool}(h:UV H F u v)(hn:u.isNil nk=some b): ∃c,v= .c c/\Vm.isNil nk c=some b:=by
 cases v with
 |tuple vs=>exact h.elim
 |agg xs=>obtain⟨us,rfl,_⟩:=h;cases nk<;>simp[U.isNil]at hn
 |c c=>
  refine⟨c,rfl, ?_⟩
  obtain⟨h1,h2⟩:=h
  cases u with
  |c x=>
   have:=h2.2
   simp only[List.cons.injEq,and_true]at this
   subst this
   cases nk<;>exact hn
  |st us=>cases h1
  |sl b' es=>cases nk<;>simp[U.isNil]at hn;rcases h2 with⟨g1,g2,g3⟩ |⟨g1,i,o,cs,sz,g3,_⟩<;>(simp at g3;subst g3;subst g1;simpa[Vm.isNil]using hn)
  |ref w k=>cases nk<;>simp[U.isNil]at hn;obtain⟨i,o,zz,cs,n,g1,_⟩:=h2;simp at g1;subst g1;simpa[Vm.isNil]using hn
  |fn f a b'=>cases nk<;>simp[U.isNil]at hn;obtain⟨a',b'',g1,_⟩:=h2;simp at g1;subst g1;simpa[Vm.isNil]using hn
  |ifc t g cs=>cases nk<;>simp[U.isNil]at hn;obtain⟨cs',g1,_⟩:=h2;simp at g1;subst g1;simpa[Vm.isNil]using hn
theorem Z0G: ∀{us:List U} {xs ys:List C},UCs H F us ys->flats us=some xs->ys=xs
 | [],xs,ys,h,hf=>by cases hf;exact h
 |u::us,xs,ys,⟨c,cs,h1,h2,h3,h4⟩,hf=>by
  simp only[flats]at hf
  obtain⟨x,hx,hf⟩:=oB.1 hf
  obtain⟨xs',hxs,hf⟩:=oB.1 hf
  cases hf
  rw[j0K hx]at h3
  have:=h3.2
  simp only[List.cons.injEq,and_true]at this
  rw[h1,this,Z0G h4 hxs]
theorem k0c{u:U}{v:V}(h:UV H F u v)(hn:u.isNilSl=true):v= .c .nilSlice:=by
 unfold U.isNilSl at hn
 split at hn
 ·cases v with
  |tuple vs=>exact h.elim
  |agg xs=>obtain⟨us,h,_⟩:=h;cases h
  |c c=>
   rcases h.2 with⟨_,_,g⟩ |⟨g,_⟩
   ·simp at g;rw[g]
   ·cases g
 ·cases hn
theorem J1e{u:U}{v:V}{n:Nat}(h:UV H F u v)(hn:u.len=some n): ∃c,v= .c c/\c.len=some n:=by
 cases u<;>simp[U.len,U.asL]at hn
 rename_i b es
 cases v with
 |tuple vs=>exact h.elim
 |agg xs=>obtain⟨us,h,_⟩:=h;cases h
 |c c=>
  refine⟨c,rfl, ?_⟩
  rcases h.2 with⟨g1,g2,g3⟩ |⟨g1,i,o,cs,sz,g3,_⟩
  ·simp at g3;subst g3;subst g2;simpa[C.len]using hn
  ·simp at g3;subst g3;simpa[C.len]using hn
theorem Z0H{x:X}{i c:Nat}(h: ∀{R2:Type} (Kl' Ko':Nat->Nat->Option R2),placeK e x Kl' Ko'=Ko' i c):evC e x=some (.ptr i c):=by
 have h':=h (R2:=Nat×Nat) (fun _ _=>none) fun a b=>some (a,b)
 have fin: ∀{v:V},(v.asP.bind fun a=>some (a.1,a.2))=some (i,c)->v.asC=some (.ptr i c):=by
  intro v hv
  simp only[V.asP]at hv
  obtain⟨a,ha,hv⟩:=oB.1 hv
  obtain⟨d,hd,ha⟩:=oB.1 ha
  cases d<;>simp at ha
  subst ha
  simp at hv
  rw[hd,hv.1,hv.2]
 cases x with
 |f g=>cases h'
 |c v=>simp only[placeK]at h';simp only[evC,ev,oS,fin h']
 |t p=>
  simp only[placeK]at h'
  cases ht:e.get p with
  |poison=>rw[ht]at h';cases h'
  |loc cs=>rw[ht]at h';cases h'
  |laddr q o=>rw[ht]at h';cases h'
  |val v=>rw[ht]at h';simp only[evC,ev,ht,oS,fin h']
theorem Y0m{A:Type}{kd:K0}{x:U}{v:V}{K:U->Option A}{r:A}(hk:kd≠ .c)(hv:UV H F x v)(h:x.take0 kd K=some r): ∃u c c',v= .c c/\K u=some r/\(∀{R2:Type} (K2:C->Option R2),kd.take c K2=K2 c')/\u.isSt=false/\UC H F u [c']:=by
 have hx: ∃c,x= .c c:=by
  cases kd with
  |c=>exact absurd rfl hk
  |int k=>obtain⟨n,hn,_⟩:=oB.1 h;obtain⟨y,hy,_⟩:=oB.1 hn;exact⟨y,j0K hy⟩
  |bool=>obtain⟨n,hn,_⟩:=oB.1 h;obtain⟨y,hy,_⟩:=oB.1 hn;exact⟨y,j0K hy⟩
  |str=>obtain⟨n,hn,_⟩:=oB.1 h;obtain⟨y,hy,_⟩:=oB.1 hn;exact⟨y,j0K hy⟩
 obtain⟨c,rfl⟩:=hx
 have hc:=hv.c_eq
 subst hc
 obtain⟨u,c',h1,h2,h3,h4⟩:=z0n hv.1 hv.2 h
 exact⟨u,c,c',rfl,h1,h2,h3,h4⟩
theorem k0Z: ∀(ks:List K0) (us:List U) (f:Nat->U) (i:Nat),hasKs ks us=true->(∀j,j<us.length->f (i+j)=us.getD j (.c .junk))->tcells f i ks=us
 | [],[],f,i,_,_=>rfl
 | [],u::us,f,i,h,_=>by cases h
 |k::ks,[],f,i,h,_=>by cases h
 |k::ks,u::us,f,i,h,hf=>by
  simp only[hasKs,bA]at h
  have h0:f i=u:=by simpa using hf 0 (by simp)
  have h1:tcell k u=u:=by
   have:=h.1
   cases k with
   |c=>rfl
   |int k=>cases u<;>simp[U.hasK]at this;rename_i c;cases c<;>simp at this;subst this;rfl
   |bool=>cases u<;>simp[U.hasK]at this;rename_i c;cases c<;>simp at this;rfl
   |str=>cases u<;>simp[U.hasK]at this;rename_i c;cases c<;>simp at this;rfl
  simp only[tcells,h0,h1]
  rw[k0Z ks us f (i+1) h.2 fun j hj=>by
   have:=hf (j+1) (by simp;omega)
   rw[Nat.add_assoc,Nat.add_comm 1 j];simpa using this]
theorem Z0I{k:K0}{u:U}{c:C}(h:u.hasK k=true)(hs:u.isSt=false)(hu:UC H F u [c]){R2:Type}(K2:C->Option R2):k.take c K2=K2 c:=by
 cases k with
 |c=>rfl
 |int k=>
  cases u<;>simp[U.hasK]at h
  rename_i x;cases x<;>simp at h
  have:=hu.2;simp at this;subst this;subst h;simp[K0.take,C.asI]
 |bool=>
  cases u<;>simp[U.hasK]at h
  rename_i x;cases x<;>simp at h
  have:=hu.2;simp at this;subst this;simp[K0.take,C.asB]
 |str=>
  cases u<;>simp[U.hasK]at h
  rename_i x;cases x<;>simp at h
  have:=hu.2;simp at this;subst this;simp[K0.take,C.asS]
theorem Q0d: ∀{ks:List K0} {us:List U} {xs:List C},hasKs ks us=true->UCs H F us xs-> ∀{R2:Type} (K2:List C->Option R2),takes ks xs K2=K2 xs
 | [],[],xs,_,hu,_,K2=>by rw[show xs=[]from hu];rfl
 | [],u::us,xs,h,_,_,_=>by cases h
 |k::ks,[],xs,h,_,_,_=>by cases h
 |k::ks,u::us,xs,h,⟨c,cs,h1,h2,h3,h4⟩,R2,K2=>by
  simp only[hasKs,bA]at h
  rw[h1]
  simp only[takes,headC,oS,List.drop_succ_cons,List.drop_zero]
  rw[Z0I h.1 h2 h3,Q0d h.2 h4]
theorem Z0J{i:Nat}{zz:Nat}{cs:List C}(hg:H.get i=some (.cells zz cs)): ∀{ks:List K0} {us:List U} {o:Nat},hasKs ks us=true->UCs H F us ((cs.drop o).take ks.length)-> ∀{R2:Type} (K2:List C->Option R2),H.lds i o ks K2=K2 ((cs.drop o).take ks.length)
 | [],us,o,_,_,_,K2=>by simp[Heap.lds]
 |k::ks,[],o,h,_,_,_=>by cases h
 |k::ks,u::us,o,h,⟨c,cs',h1,h2,h3,h4⟩,R2,K2=>by
  simp only[hasKs,bA]at h
  simp only[List.length_cons]at h1⊢
  have hc:cs[o]? =some c:=by
   have:((cs.drop o).take (ks.length+1))[0]? =some c:=by rw[h1];rfl
   simpa using z0O this
  have hd:(cs.drop (o+1)).take ks.length=cs':=by
   have:((cs.drop o).take (ks.length+1)).drop 1=cs':=by rw[h1];rfl
   rw[<-this,List.drop_take,List.drop_drop];simp
  simp only[Heap.lds,K0q hg hc,oS]
  rw[Z0I h.1 h2 h3,Z0J hg (o:=o+1) h.2 (by rw[hd];exact h4),hd,h1]
theorem Y0n{v:U}{xs:List C}{o:Nat}{ks:List K0}{f:Nat->U}(hv:UC H F v xs)(h:v.struct o ks=some f):o+ks.length<=xs.length/\ ∃us,tcells f 0 ks=us/\hasKs ks us=true/\UCs H F us ((xs.drop o).take ks.length):=by
 cases v<;>simp[U.struct]at h
 rename_i cs
 obtain⟨⟨h1,h2⟩,rfl⟩:=h
 have hl:=UCs.length hv
 refine⟨by omega,_,k0Z ks ((cs.drop o).take ks.length) _ 0 h2 (fun j hj=> ?_),h2,(UCs.drop o hv).take _⟩
 simp only[Nat.zero_add,lG]
 rw[List.getElem?_take,if_pos (by simp at hj;omega),List.getElem?_drop]
theorem Z0K{v:U}{xs:List C}{ks:List K0}{f:Nat->U}(hv:UC H F v xs)(h:v.exact ks=some f): ∃us,v= .st us/\tcells f 0 ks=us/\hasKs ks us=true/\UCs H F us xs:=by
 cases v<;>simp[U.exact]at h
 rename_i cs
 obtain⟨⟨h1,h2⟩,rfl⟩:=h
 exact⟨_,rfl,k0Z ks cs _ 0 h2 fun j hj=>by simp,h2,hv⟩
theorem w0a{A:Type}{kd:KD}{x:U}{v:V}{K:U->Option A}{r:A}(hv:UV H F x v)(h:x.take kd K=some r): ∃u w,K u=some r/\(∀{R2:Type} (K2:V->Option R2),kd.take v K2=K2 w)/\UV H F u w:=by
 cases kd with
 |any=>exact⟨x,v,h,fun _=>rfl,hv⟩
 |one k=>
  have other:k≠ .c->x.take0 k K=some r-> ∃u w,K u=some r/\(∀{R2:Type} (K2:V->Option R2),(KD.one k).take v K2=K2 w)/\UV H F u w:=by
   intro hk h
   obtain⟨u,c,c',rfl,h1,h2,h3,h4⟩:=Y0m hk hv h
   exact⟨u, .c c',h1,fun K2=>by simp only[KD.take,V.asC,oS,h2],h3,h4⟩
  cases k with
  |c=>
   simp only[U.take]at h
   obtain⟨w,hw,h9⟩:=oB.1 h
   clear h
   have hwu:w=x/\x.isSt=false:=by cases x<;>simp[U.one]at hw<;>simp[<-hw,U.isSt]
   obtain⟨rfl,hs⟩:=hwu
   cases v with
   |c c=>exact⟨_, .c c,h9,fun K2=>by simp only[KD.take,V.asC,oS,K0.take],hv⟩
   |agg xs=>obtain⟨us,h1,_⟩:=hv;rw[h1]at hs;cases hs
   |tuple vs=>exact hv.elim
  |int k=>exact other (by simp) h
  |bool=>exact other (by simp) h
  |str=>exact other (by simp) h
 |agg ks=>
  simp only[U.take]at h
  obtain⟨f,hf,h9⟩:=oB.1 h
  clear h
  cases v with
  |c c=>
   obtain⟨us,h1,_⟩:=Z0K hv.2 hf
   rw[h1]at hv;cases hv.1
  |agg xs=>
   obtain⟨us0,rfl,h2⟩:=hv
   obtain⟨us,h1,h3,h4,h5⟩:=Z0K (v:= .st us0) h2 hf
   rw[h3]at h9
   exact⟨_, .agg xs,h9,fun K2=>by simp only[KD.take,V.asA,oS];rw[Q0d h4 h5],us,rfl,h5⟩
  |tuple vs=>exact hv.elim
end
section
variable{lim:Nat}{vcall:CallT}{md:FuncId->List RM}{ycall:YCallT}{b0:Nat}{F:Nat->Prop}{κ:Nat->C}{z:Z}{e:Env}{H:Heap}{A:Type}{K:Y->Z->Option A}{r:A}
theorem Out.after{F':Nat->Prop}{z1 z2:Z}{o:ROp}{y:Y}(R:SR b0 F κ z e H)(h:Fzd b0 κ e H F z F' z1)(k:Out lim vcall b0 F' κ z1 e H o y z2):Out lim vcall b0 F κ z e H o y z2:=by
 obtain⟨F2,κ2,t,H2,h1,h2,h3,h4,h5,h6,h7,h8,h9,h10⟩:=k
 exact⟨F2,κ2,t,H2,h1,h2,h3,(h.adv R _).trans h4,h.n▸h5,h6.trans h.s,h7,h8,fun k i hk=>(h9 k i hk).imp (h.own k i) id,fun i hi=>(h10 i hi).imp id fun⟨k,g1,g2⟩=>⟨k,by rw[<-K0p h.s];exact g1,h.own k i g2⟩⟩
theorem q0l(R:SR b0 F κ z e H){o:ROp}(ho:match o with
  | .ar _ _ _ _ | .cmp _ _ _ _ | .dv _ _ _ _ | .bit _ _ _ _ | .sh _ _ _ _ _ | .eqB _ _ _ | .cmpS _ _ _ | .catS _ _ | .not _ | .neg _ _ | .conv _ _ _ | .mm _ _ _ _ | .idxS _ _ | .lenS _ | .len _ | .capN _ | .eqN _ _ _ | .eqA _ _ _ _ | .subS _ _ _=>True
  |_=>False) (h:evalY md ycall z o K=some r): ∃y z',K y z'=some r/\Out lim vcall b0 F κ z e H o y z':=by
 cases o<;>first |exact ho.elim |skip
 all_goals simp only[evalY]at h
 case ar op k x y=>obtain⟨a,ha,h⟩:=oB.1 h;obtain⟨b,hb,h⟩:=oB.1 h;exact⟨_,z,h, .c R rfl fun K2=>by simp only[evalOp,R.ylI ha,R.ylI hb,oS]⟩
 case cmp op k x y=>obtain⟨a,ha,h⟩:=oB.1 h;obtain⟨b,hb,h⟩:=oB.1 h;exact⟨_,z,h, .c R rfl fun K2=>by simp only[evalOp,R.ylI ha,R.ylI hb,oS]⟩
 case bit op k x y=>obtain⟨a,ha,h⟩:=oB.1 h;obtain⟨b,hb,h⟩:=oB.1 h;exact⟨_,z,h, .c R rfl fun K2=>by simp only[evalOp,R.ylI ha,R.ylI hb,oS]⟩
 case mm op k x y=>obtain⟨a,ha,h⟩:=oB.1 h;obtain⟨b,hb,h⟩:=oB.1 h;exact⟨_,z,h, .c R rfl fun K2=>by simp only[evalOp,R.ylI ha,R.ylI hb,oS]⟩
 case dv op k x y=>
  obtain⟨a,ha,h⟩:=oB.1 h;obtain⟨b,hb,h⟩:=oB.1 h
  split at h
  ·cases h
  ·rename_i h0;exact⟨_,z,h, .c R rfl fun K2=>by simp only[evalOp,R.ylI ha,R.ylI hb,oS,if_neg h0]⟩
 case sh op k j x y=>
  obtain⟨a,ha,h⟩:=oB.1 h;obtain⟨b,hb,h⟩:=oB.1 h
  split at h
  ·cases h
  ·rename_i h0;exact⟨_,z,h, .c R rfl fun K2=>by simp only[evalOp,R.ylI ha,R.ylI hb,oS,if_neg h0]⟩
 case eqB ne x y=>obtain⟨a,ha,h⟩:=oB.1 h;obtain⟨b,hb,h⟩:=oB.1 h;exact⟨_,z,h, .c R rfl fun K2=>by simp only[evalOp,R.ylB ha,R.ylB hb,oS]⟩
 case cmpS op x y=>
  obtain⟨a,ha,h⟩:=oB.1 h;obtain⟨b,hb,h⟩:=oB.1 h
  obtain⟨c,c1,c2⟩:=R.ylS ha;obtain⟨d,d1,d2⟩:=R.ylS hb
  exact⟨_,z,h, .c R rfl fun K2=>by simp only[evalOp,c1,c2,d1,d2,oS]⟩
 case catS x y=>
  obtain⟨a,ha,h⟩:=oB.1 h;obtain⟨b,hb,h⟩:=oB.1 h
  obtain⟨c,c1,c2⟩:=R.ylS ha;obtain⟨d,d1,d2⟩:=R.ylS hb
  split at h
  ·rename_i h0;exact⟨_,z,h, .c R rfl fun K2=>by simp only[evalOp,c1,c2,d1,d2,oS,if_pos h0]⟩
  ·cases h
 case not x=>obtain⟨a,ha,h⟩:=oB.1 h;exact⟨_,z,h, .c R rfl fun K2=>by simp only[evalOp,R.ylB ha,oS]⟩
 case neg k x=>obtain⟨a,ha,h⟩:=oB.1 h;exact⟨_,z,h, .c R rfl fun K2=>by simp only[evalOp,R.ylI ha,oS]⟩
 case conv j k x=>obtain⟨a,ha,h⟩:=oB.1 h;exact⟨_,z,h, .c R rfl fun K2=>by simp only[evalOp,R.ylI ha,oS]⟩
 case lenS x=>
  obtain⟨a,ha,h⟩:=oB.1 h
  obtain⟨c,c1,c2⟩:=R.ylS ha
  exact⟨_,z,h, .c R rfl fun K2=>by simp only[evalOp,c1,c2,oS]⟩
 case idxS x i=>
  obtain⟨a,ha,h⟩:=oB.1 h;obtain⟨b,hb,h⟩:=oB.1 h
  obtain⟨c,c1,c2⟩:=R.ylS ha;obtain⟨d,d1,d2⟩:=R.ylIx hb
  split at h
  ·rename_i h0
   obtain⟨w,hw,h⟩:=oB.1 h
   exact⟨_,z,h, .c R rfl fun K2=>by simp only[evalOp,c1,c2,d1,d2,oS,if_pos h0,hw]⟩
  ·cases h
 case len x=>
  obtain⟨u,hu,h⟩:=oB.1 h;obtain⟨n,hn,h⟩:=oB.1 h
  obtain⟨v,h1,h2⟩:=R.yl hu
  obtain⟨c,rfl,h3⟩:=J1e h2 hn
  exact⟨_,z,h, .c R rfl fun K2=>by simp only[evalOp,evC,h1,V.asC,h3,oS]⟩
 case capN x=>
  obtain⟨u,hu,h⟩:=oB.1 h
  obtain⟨v,h1,h2⟩:=R.yl hu
  split at h
  ·rename_i hn
   have hv:=k0c h2 hn
   subst hv
   exact⟨_,z,h, .c R rfl fun K2=>by simp only[evalOp,evC,h1,V.asC,C.capN,oS]⟩
  ·cases h
 case eqN nk ne x=>
  obtain⟨u,hu,h⟩:=oB.1 h;obtain⟨n,hn,h⟩:=oB.1 h
  obtain⟨v,h1,h2⟩:=R.yl hu
  obtain⟨c,rfl,h3⟩:=j1G h2 hn
  exact⟨_,z,h, .c R rfl fun K2=>by simp only[evalOp,evC,h1,V.asC,h3,oS]⟩
 case eqA ne ks x y=>
  obtain⟨u,hu,h⟩:=oB.1 h;obtain⟨u',hu',h⟩:=oB.1 h;obtain⟨b,hb,h9⟩:=oB.1 h;clear h
  obtain⟨v,h1,h2⟩:=R.yl hu;obtain⟨v',h1',h2'⟩:=R.yl hu'
  simp only[eqUs]at hb
  obtain⟨us,g1,hb⟩:=oB.1 hb;obtain⟨vs,g2,hb⟩:=oB.1 hb;obtain⟨xs,g3,hb⟩:=oB.1 hb;obtain⟨ys,g4,hb9⟩:=oB.1 hb
  clear hb
  cases u<;>simp[U.asCs]at g1
  cases u'<;>simp[U.asCs]at g2
  subst g1 g2
  have key: ∀{us:List U} {v:V} {xs:List C},UV H (FO F z.o κ) (.st us) v->flats us=some xs->v.asA=some xs:=by
   intro us v xs hv hf
   cases v with
   |c c=>cases hv.1
   |agg as=>obtain⟨us',k1,k2⟩:=hv;cases k1;rw[V.asA,Z0G k2 hf]
   |tuple vs=>exact hv.elim
  exact⟨_,z,h9, .c R rfl fun K2=>by simp only[evalOp,h1,h1',key h2 g3,key h2' g4,oS,hb9]⟩
 case subS x lo hi=>
  obtain⟨a,ha,h⟩:=oB.1 h;obtain⟨l,hl,h⟩:=oB.1 h;obtain⟨hh,hhi,h⟩:=oB.1 h
  obtain⟨c,hc,h⟩:=oB.1 h;obtain⟨u,hu,h⟩:=oB.1 h
  obtain⟨d,d1,d2⟩:=R.ylS ha
  have hd:d= .str a:=by cases d<;>simp[C.asS]at d2;rw[d2]
  obtain⟨g1,g2⟩:=Q0a (H:=H) (F:=F) hu
  exact⟨_,z,h, .val R (v:= .c c) (fun K2=>by simp only[evalOp,d1,hd,R.ylLo hl,R.ylHi hhi,hc,oS]) ⟨g1,g2⟩⟩
end
section
variable{b0:Nat}{F:Nat->Prop}{κ:Nat->C}{z:Z}{e:Env}{H:Heap}
theorem k0d{cs:List C}{q m c n:Nat}(hq:q+m<=cs.length)(h:c+n<=((cs.drop q).take m).length):(((cs.drop q).take m).drop c).take n=(cs.drop (q+c)).take n/\q+c+n<=cs.length:=by
 rw[List.length_take,List.length_drop]at h
 refine⟨?_,by omega⟩
 rw[List.drop_take,List.take_take,List.drop_drop]
 congr 1;omega
theorem k0G{v w:U}{xs:List C}{o n:Nat}(hv:UC H F v xs)(h:v.part o n=some w):o+n<=xs.length/\ ∃us,w= .st us/\UCs H F us ((xs.drop o).take n):=by
 cases v<;>simp[U.part]at h
 rename_i cs
 obtain⟨h1,rfl⟩:=h
 have hl:=UCs.length hv
 exact⟨by omega,_,rfl,(UCs.drop o hv).take n⟩
theorem X0y{i o n zz:Nat}{cs:List C}(hg:H.get i=some (.cells zz cs))(h:o+n<=cs.length):H.ldN i o n=some ((cs.drop o).take n):=by simp only[Heap.ldN,hg,if_pos h]
end
section
variable{lim:Nat}{vcall:CallT}{md:FuncId->List RM}{ycall:YCallT}{b0:Nat}{F:Nat->Prop}{κ:Nat->C}{z:Z}{e:Env}{H:Heap}{A:Type}{K:Y->Z->Option A}{r:A}
theorem z0P(R:SR b0 F κ z e H){o:ROp}{cs:List Oc}{xs:List C}{c n:Nat}{chk:List U->Bool}(hr:OcsR H F κ z.o cs xs)
  (hev: ∀us F',chk us=true->UCs H F' us ((xs.drop c).take n)->c+n<=xs.length-> ∀{R2:Type} (K2:T->Heap->Option R2),evalOp lim vcall e H o K2=K2 (.val (.agg ((xs.drop c).take n))) H) (h:ldsC z cs c n chk K=some r): ∃y z',K y z'=some r/\Out lim vcall b0 F κ z e H o y z':=by
 unfold ldsC at h
 split at h
 ·rename_i hl
  obtain⟨us,hus,h⟩:=oB.1 h
  split at h
  ·rename_i hc
   obtain⟨z',hz,h⟩:=oB.1 h
   obtain⟨F',g1,g2,g3⟩:=R.fzCells hz
   have hu:=g2 us _ hus ((hr.drop c).take n)
   exact⟨_,z',h, .after R g1 (.val g1.sr (v:= .agg _) (hev us F' hc hu (by rw[<-hr.length];exact hl)) ⟨us,rfl,hu⟩)⟩
  ·cases h
 ·cases h
theorem j1H(R:SR b0 F κ z e H){ks:List K0}{a:X}(h:evalY md ycall z (.lds ks a) K=some r): ∃y z',K y z'=some r/\Out lim vcall b0 F κ z e H (.lds ks a) y z':=by
 simp only[evalY]at h
 have hev: ∀{i o zz:Nat} {cs:List C} {us:List U} {F':Nat->Prop},(∀{R2:Type} (Kl' Ko':Nat->Nat->Option R2),placeK e a Kl' Ko'=Ko' i o)->H.get i=some (.cells zz cs)->hasKs ks us=true->UCs H F' us ((cs.drop o).take ks.length)->
   ∀{R2:Type} (K2:T->Heap->Option R2),evalOp lim vcall e H (.lds ks a) K2=K2 (.val (.agg ((cs.drop o).take ks.length))) H:=fun hp hg h1 h2 _ K2=>by
  simp only[evalOp];rw[hp,Z0J hg h1 h2]
 have plain: ∀{v:U} {i q c m zz:Nat} {cs:List C} {f:Nat->U},(∀{R2:Type} (Kl' Ko':Nat->Nat->Option R2),placeK e a Kl' Ko'=Ko' i (q+c))->H.get i=some (.cells zz cs)->q+m<=cs.length->UC H F v ((cs.drop q).take m)->v.struct c ks=some f->K (.val (.st (tcells f 0 ks))) z=some r-> ∃y z',K y z'=some r/\Out lim vcall b0 F κ z e H (.lds ks a) y z':=by
  intro v i q c m zz cs f hp hg hq hv hf h
  obtain⟨g1,us,g2,g3,g4⟩:=Y0n hv hf
  obtain⟨k1,k2⟩:=k0d hq g1
  rw[k1]at g4
  rw[g2]at h
  exact⟨_,z,h, .val R (v:= .agg _) (hev hp hg g3 g4) ⟨us,rfl,g4⟩⟩
 rcases R.yptr h with⟨q,c,cs,xs,h1,_⟩ |⟨k,c,i,h1,h2,h3,h4⟩ |⟨k,j,c,s,i,p,m,h1,h2,h3,h4,h5,h6⟩ |⟨v,o,i,q,zz,cs,n,h1,h2,h3,h4,h5,h6⟩
 ·cases h1
 ·have hob:=R.ob k
  split at h1
  ·rename_i cs hk
   rw[hk]at hob
   obtain⟨i',zz,xs,g1,g2,g3,g4,g5⟩:=hob
   rw[h3]at g1;cases g1
   exact z0P R g5 (fun us F' k1 k2 k3=>hev h4 g4 k1 k2) h1
  ·rename_i v hk
   rw[hk]at hob
   obtain⟨i',zz,xs,g1,g2,g3,g4,g5⟩:=hob
   rw[h3]at g1;cases g1
   obtain⟨f,hf,h1⟩:=oB.1 h1
   exact plain (q:=0) (c:=c) (m:=xs.length) (fun Kl' Ko'=>by rw[Nat.zero_add];exact h4 Kl' Ko') g4 (by simp) (by simpa using g5) hf h1
  ·cases h1
 ·simp only[ldE,h2]at h1
  obtain⟨v,hv,h1⟩:=oB.1 h1
  obtain⟨f,hf,h1⟩:=oB.1 h1
  obtain⟨cs,g1,g2,g3⟩:=R.elem h2 h3 h4 hv
  exact plain h6 g1 g3 g2 hf h1
 ·obtain⟨f,hf,h1⟩:=oB.1 h1
  exact plain h6 h3 h4 h5 hf h1
theorem j1I(R:SR b0 F κ z e H){n:Nat}{a:X}(h:evalY md ycall z (.ldN n a) K=some r): ∃y z',K y z'=some r/\Out lim vcall b0 F κ z e H (.ldN n a) y z':=by
 simp only[evalY]at h
 have hev: ∀{i o zz:Nat} {cs:List C},(∀{R2:Type} (Kl' Ko':Nat->Nat->Option R2),placeK e a Kl' Ko'=Ko' i o)->H.get i=some (.cells zz cs)->o+n<=cs.length->
   ∀{R2:Type} (K2:T->Heap->Option R2),evalOp lim vcall e H (.ldN n a) K2=K2 (.val (.agg ((cs.drop o).take n))) H:=fun hp hg h1 _ K2=>by
  simp only[evalOp];rw[hp,X0y hg h1];rfl
 have plain: ∀{v w:U} {i q c m zz:Nat} {cs:List C},(∀{R2:Type} (Kl' Ko':Nat->Nat->Option R2),placeK e a Kl' Ko'=Ko' i (q+c))->H.get i=some (.cells zz cs)->q+m<=cs.length->UC H F v ((cs.drop q).take m)->v.part c n=some w->K (.val w) z=some r-> ∃y z',K y z'=some r/\Out lim vcall b0 F κ z e H (.ldN n a) y z':=by
  intro v w i q c m zz cs hp hg hq hv hf h
  obtain⟨g1,us,g2,g4⟩:=k0G hv hf
  obtain⟨k1,k2⟩:=k0d hq g1
  rw[k1]at g4
  rw[g2]at h
  exact⟨_,z,h, .val R (v:= .agg _) (hev hp hg k2) ⟨us,rfl,g4⟩⟩
 rcases R.yptr h with⟨q,c,cs,xs,h1,h2,h3,h4,h5⟩ |⟨k,c,i,h1,h2,h3,h4⟩ |⟨k,j,c,s,i,p,m,h1,h2,h3,h4,h5,h6⟩ |⟨v,o,i,q,zz,cs,m,h1,h2,h3,h4,h5,h6⟩
 ·rw[h2]at h1
  exact z0P R h4 (fun us F' _ k2 k3 _ K2=>by simp only[evalOp];rw[h5];simp only[locCells,h3,oS,if_pos k3]) h1
 ·have hob:=R.ob k
  split at h1
  ·rename_i cs hk
   rw[hk]at hob
   obtain⟨i',zz,xs,g1,g2,g3,g4,g5⟩:=hob
   rw[h3]at g1;cases g1
   exact z0P R g5 (fun us F' k1 k2 k3=>hev h4 g4 k3) h1
  ·rename_i v hk
   rw[hk]at hob
   obtain⟨i',zz,xs,g1,g2,g3,g4,g5⟩:=hob
   rw[h3]at g1;cases g1
   obtain⟨f,hf,h1⟩:=oB.1 h1
   exact plain (q:=0) (c:=c) (m:=xs.length) (fun Kl' Ko'=>by rw[Nat.zero_add];exact h4 Kl' Ko') g4 (by simp) (by simpa using g5) hf h1
  ·cases h1
 ·simp only[ldE,h2]at h1
  obtain⟨v,hv,h1⟩:=oB.1 h1
  obtain⟨f,hf,h1⟩:=oB.1 h1
  obtain⟨cs,g1,g2,g3⟩:=R.elem h2 h3 h4 hv
  exact plain h6 g1 g3 g2 hf h1
 ·obtain⟨f,hf,h1⟩:=oB.1 h1
  exact plain h6 h3 h4 h5 hf h1
theorem j1J(R:SR b0 F κ z e H){s:Nat}{kd:K0}{a:X}(h:evalY md ycall z (.ldL s kd a) K=some r): ∃y z',K y z'=some r/\Out lim vcall b0 F κ z e H (.ldL s kd a) y z':=by
 simp only[evalY]at h
 rcases R.yptr h with⟨q,c,cs,xs,h1,h2,h3,h4,h5⟩ |⟨k,c,i,h1,_⟩ |⟨k,j,c,s,i,p,m,h1,_⟩ |⟨v,o,i,q,zz,cs,m,h1,_⟩
 ·split at h1
  ·rename_i hqs
   subst hqs
   rw[h2]at h1
   exact Q0c R h4 (fun k k1 k2 d hd hr=>R.slotRefs h2 k1 k2 ⟨d,hd,hr⟩) (fun K2 x hx=>by simp only[evalOp];rw[h5];simp only[locCells,h3,oS,iT,hx]) h1
  ·cases h1
 ·cases h1
 ·cases h1
 ·cases h1
theorem Y0o(R:SR b0 F κ z e H){s:Nat}{ks:List K0}{a:X}(h:evalY md ycall z (.ldsL s ks a) K=some r): ∃y z',K y z'=some r/\Out lim vcall b0 F κ z e H (.ldsL s ks a) y z':=by
 simp only[evalY]at h
 rcases R.yptr h with⟨q,c,cs,xs,h1,h2,h3,h4,h5⟩ |⟨k,c,i,h1,_⟩ |⟨k,j,c,s,i,p,m,h1,_⟩ |⟨v,o,i,q,zz,cs,m,h1,_⟩
 ·split at h1
  ·rename_i hqs
   subst hqs
   rw[h2]at h1
   exact z0P R h4 (fun us F' _ k2 k3 _ K2=>by simp only[evalOp];rw[h5];simp only[locCells,h3,oS,iT,if_pos k3]) h1
  ·cases h1
 ·cases h1
 ·cases h1
 ·cases h1
theorem Q0K(R:SR b0 F κ z e H){o:ROp}{a:X}{d:Nat}(hev: ∀{R2:Type} (K2:T->Heap->Option R2),evalOp lim vcall e H o K2=placeK e a (fun p q=>K2 (.laddr p (q+d)) H) (fun i q=>K2 (.val (.c (.ptr i (q+d)))) H))
  (h:yptr z a (fun q c=>K (.addr q (c+d)) z) (fun k c=>K (.oaddr k (c+d)) z) (fun k j c=>K (.eaddr k j (c+d)) z) (fun v c=>K (.val (.ref v (c+d))) z)=some r): ∃y z',K y z'=some r/\Out lim vcall b0 F κ z e H o y z':=by
 have used: ∀{k:Nat},z.o k≠ .none-> ∀j,z.n<=j->j<base-> ¬k=j:=fun hk j h1 h2 h3=>by rcases R.used hk with h |h<;>omega
 rcases R.yptr h with⟨q,c,cs,xs,h1,h2,h3,h4,h5⟩ |⟨k,c,i,h1,h2,h3,h4⟩ |⟨k,j,c,s,i,p,m,h1,h2,h3,h4,h5,h6⟩ |⟨v,o',i,q,zz,cs,n,h1,h2,h3,h4,h5,h6⟩
 ·exact⟨_,z,h1,F,κ, .laddr q (c+d),H,fun K2=>by rw[hev,h5],R,by simp only[YR,h2], .refl _ _ _ _,nR _,rfl,fun _ _ _ h=>h,(fun _ h=>by cases h),fun _ _ h=> .inl h,fun _ _=> .inl rfl⟩
 ·have hne:z.o k≠ .none:=fun h=>by rcases h2 with⟨_,h2⟩ |⟨_,h2⟩<;>rw[h]at h2<;>cases h2
  exact⟨_,z,h1,F,κ, .val (.c (.ptr i (c+d))),H,fun K2=>by rw[hev,h4],R, .inr ⟨i,h3,rfl⟩, .refl _ _ _ _,nR _,rfl,used hne,(fun _ h=>by cases h),fun _ _ h=> .inl h,fun _ _=> .inl rfl⟩
 ·exact⟨_,z,h1,F,κ, .val (.c (.ptr i (p+j*s.sz+c+d))),H,fun K2=>by rw[hev,h6],R,by simp only[YR,h2];exact⟨h3,i,p,m,h4,by rw[Nat.add_assoc _ c d],h5⟩, .refl _ _ _ _,nR _,rfl,used (by rw[h2];simp),(fun _ h=>by cases h),fun _ _ h=> .inl h,fun _ _=> .inl rfl⟩
 ·exact⟨_,z,h1, .val R (v:= .c (.ptr i (q+o'+d))) (fun K2=>by rw[hev,h6]) ⟨rfl,i,q,zz,cs,n,by rw[Nat.add_assoc],h2,h3,h4,h5⟩⟩
theorem K0r(R:SR b0 F κ z e H){x:X}(h:evalY md ycall z (.nilck x) K=some r): ∃y z',K y z'=some r/\Out lim vcall b0 F κ z e H (.nilck x) y z':=by
 simp only[evalY]at h
 have used: ∀{k:Nat},z.o k≠ .none-> ∀j,z.n<=j->j<base-> ¬k=j:=fun hk j h1 h2 h3=>by rcases R.used hk with h |h<;>omega
 rcases R.yptr h with⟨q,c,cs,xs,h1,h2,h3,h4,h5⟩ |⟨k,c,i,h1,h2,h3,h4⟩ |⟨k,j,c,s,i,p,m,h1,h2,h3,h4,h5,h6⟩ |⟨v,o',i,q,zz,cs,n,h1,h2,h3,h4,h5,h6⟩
 ·cases h1
 ·have hne:z.o k≠ .none:=fun h=>by rcases h2 with⟨_,h2⟩ |⟨_,h2⟩<;>rw[h]at h2<;>cases h2
  exact⟨_,z,h1,F,κ, .val (.c (.ptr i c)),H,fun K2=>by simp only[evalOp,Z0H h4,oS],R, .inr ⟨i,h3,rfl⟩, .refl _ _ _ _,nR _,rfl,used hne,(fun _ h=>by cases h),fun _ _ h=> .inl h,fun _ _=> .inl rfl⟩
 ·cases h1
 ·exact⟨_,z,h1, .val R (v:= .c (.ptr i (q+o'))) (fun K2=>by simp only[evalOp,Z0H h6,oS]) ⟨rfl,i,q,zz,cs,n,rfl,h2,h3,h4,h5⟩⟩
theorem J1f{sz i o:Nat}{n:Int}{es:List U}{v:U}{cs:List C}(h:elU sz es n=some v)(hg: ∃zz,H.get i=some (.cells zz cs)){z0:Nat}(hl:o+es.length*z0<=cs.length)(he:EsR H F es z0 ((cs.drop o).take (es.length*z0))):
  0<=n/\n<es.length/\z0=sz/\UC H F v ((cs.drop (o+n.toNat*sz)).take sz)/\o+n.toNat*sz+sz<=cs.length:=by
 unfold elU at h
 split at h
 ·rename_i h0
  obtain⟨w,hw,h⟩:=oB.1 h
  split at h
  ·rename_i hsz
   cases h
   obtain⟨g1,g2⟩:=he.get hw
   have hlt:=(gE.1 hw).1
   have hz:z0=sz:=by
    have:=he.sizes v (List.mem_of_getElem? hw)
    omega
   subst hz
   have hle:(n.toNat+1)*z0<=es.length*z0:=Nat.mul_le_mul_right _ hlt
   rw[Nat.add_mul]at hle
   refine⟨h0,by omega,rfl, ?_,by omega⟩
   have e1:((((cs.drop o).take (es.length*z0)).drop (n.toNat*z0)).take z0)=(cs.drop (o+n.toNat*z0)).take z0:=by
    rw[List.drop_take,List.take_take,List.drop_drop]
    congr 1;omega
   rw[e1]at g1;exact g1
  ·cases h
 ·cases h
theorem j1K(R:SR b0 F κ z e H){sz:Nat}{x i:X}(h:evalY md ycall z (.idx sz x i) K=some r): ∃y z',K y z'=some r/\Out lim vcall b0 F κ z e H (.idx sz x i) y z':=by
 simp only[evalY]at h
 obtain⟨n,hn,h⟩:=oB.1 h
 obtain⟨ci,i1,i2⟩:=R.ylIx hn
 rcases R.ysl h with⟨k,s,h1,h2,h3⟩ |⟨u,v,h1,h2,h3⟩
 ·split at h1
  ·rename_i hh
   simp only[Sx.has,bA,dE,beq_iff_eq]at hh
   obtain⟨⟨g1,g2⟩,g3⟩:=hh
   have hob:=R.ob k
   rw[h2]at hob
   rcases hob with⟨k1,k2,_⟩ |⟨hb,i',p,cs,k1,k2,k3,k4,k5,k6⟩
   ·rw[k2]at g2;simp at g2;omega
   ·have hlt:n.toNat<s.es.length:=by omega
    refine⟨_,z,h1,F,κ, .val (.c (.ptr i' (p+n.toNat*s.sz+0))),H,fun K2=> ?_,R,by simp only[YR,h2];exact⟨hb,i',p,_,k1,rfl,hlt⟩, .refl _ _ _ _,nR _,rfl,fun j j1 j2 j3=> ?_,(fun _ h=>by cases h),fun _ _ h=> .inl h,fun _ _=> .inl rfl⟩
    ·simp only[evalOp,h3,k1,i1,i2,oS,C.elem,g1,g2,g3,true_and,iT,Nat.add_zero]
    ·have:k=j:=j3
     rcases R.used (k:=k) (by rw[h2];simp)with h |h<;>omega
  ·cases h1
 ·obtain⟨w,hw0,h9⟩:=oB.1 h1
  clear h1
  simp only[U.idx]at hw0
  obtain⟨q,hq,hw⟩:=oB.1 hw0
  clear hw0
  cases u<;>simp[U.asL]at hq
  subst hq
  rename_i b es
  cases v with
  |tuple vs=>exact h3.elim
  |agg xs=>obtain⟨us,h,_⟩:=h3;cases h
  |c c=>
   rcases h3.2 with⟨g1,g2,g3⟩ |⟨g1,j,o,cs,z0,g3,g4,g5,g6,g7⟩
   ·simp only[elU,g2]at hw;simp at hw
   ·simp at g3;subst g3
    obtain⟨k1,k2,k3,k4,k5⟩:=J1f hw ⟨_,g5⟩ g6 g7
    subst k3
    exact⟨_,z,h9, .val R (v:= .c (.ptr j (o+n.toNat*z0))) (fun K2=>by simp only[evalOp,evC,h2,V.asC,oS,C.elem,k1,k2,true_and,iT];rw[show(ev e i).bind V.asC=evC e i from rfl,i1,oS,i2];simp[k1,k2])
     ⟨rfl,j,o+n.toNat*z0,z0,cs,z0,by simp,g4,g5,k5,k4⟩⟩
end
end Go.Proofs.Ytglkhoamnmiolaa.Vm
