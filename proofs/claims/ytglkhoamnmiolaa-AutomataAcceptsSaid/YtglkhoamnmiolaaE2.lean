/- - -/
import Derived.Test.YtglkhoamnmiolaaE1
import Derived.Orders
import Derived.RowKit3
import Derived.IntWalk
import Derived.ChangeArms
import Derived.DataReads
set_option linter.all false
namespace Go.Proofs.Ytglkhoamnmiolaa.Vm
open Go
variable{lim base:Nat}{P:Program}
theorem HRel.push{φ:Phi}{H:Heap}{w:World}(h:HRel lim φ H w)(O:Go.Obj):HRel lim φ H (w.alloc O):=by
 refine⟨h.low,h.dom,fun i p hp=>by have:=h.bound i p hp;simp;omega,fun i sz c hg=> ?_,fun i es hg=> ?_,h.inj⟩
 ·obtain⟨p,A,el,fz,h1,h2,h3⟩:=h.cells i sz c hg
  exact⟨p,A,el,fz,h1,by rw[heap_alloc_old _ _ _ (h.bound _ _ h1)];exact h2,h3⟩
 ·obtain⟨p,ES,clock,h1,h2,h3⟩:=h.maps i es hg
  exact⟨p,ES,clock,h1,by rw[heap_alloc_old _ _ _ (h.bound _ _ h1)];exact h2,h3⟩
theorem Ext.push(φ:Phi)(w:World)(A:Array Value)(t:TypeId):Ext lim φ w φ (w.alloc (.cells A t)):=
 ⟨fun _ _ h=>h,fun _ _ h=> .inl h,by simp,fun b hb _=>heap_alloc_old _ _ _ hb,rfl,rfl,rfl,j0D w A t⟩
theorem HRel.other{φ:Phi}{H:Heap}{w w':World}{B:Nat}(h:HRel lim φ H w)(hB: ∀j p,φ j=some p->p.blk≠B)(hs:w'.heap.size=w.heap.size)(ho: ∀b,b≠B->w'.heap[b]? =w.heap[b]?):HRel lim φ H w':=by
 refine⟨h.low,h.dom,fun i p hp=>by rw[hs];exact h.bound i p hp,fun i sz c hg=> ?_,fun i es hg=> ?_,h.inj⟩
 ·obtain⟨p,A,el,fz,h1,h2,h3⟩:=h.cells i sz c hg
  exact⟨p,A,el,fz,h1,by rw[ho _ (hB _ _ h1)];exact h2,h3⟩
 ·obtain⟨p,ES,clock,h1,h2,h3⟩:=h.maps i es hg
  exact⟨p,ES,clock,h1,by rw[ho _ (hB _ _ h1)];exact h2,h3⟩
theorem X0a{φ:Phi}: ∀(xs:List C) (vs:List Value) (cs:List C) (w:World) (b o k:Nat) (a:Addr),LocRel lim φ w b cs->o+xs.length<=cs.length->CsRel lim φ xs vs->a.spot=none->a.block=b->a.off+k=o->
  ∃w',(storeCells a vs k).run P w= .ok () w'/\LocRel lim φ w' b (splice cs o xs)/\w'.heap.size=w.heap.size/\(∀b',b'≠b->w'.heap[b']? =w.heap[b']?)/\w'.os=w.os/\w'.tape=w.tape/\w'.output=w.output/\ ∀x,w'.frozen? x=w.frozen? x
 | [],_,cs,w,b,o,k,a,h,ho,hx,_,_,_=>by cases hx;exact⟨w,rfl,h,rfl,fun _ _=>rfl,rfl,rfl,rfl,fun _=>rfl⟩
 |x::xs,_,cs,w,b,o,k,a,h,ho,hx,hs,hb,hk=>by
  cases hx with
  | @cons _ v _ vs hv hvs=>
   simp only[List.length_cons]at ho
   obtain⟨⟨A,el,h1,h2⟩,h3⟩:=h
   have hl:=h2.length
   simp only[Array.length_toList]at hl
   have hadd:a.add k=⟨b,o,none⟩:=by
    obtain⟨ab,ao,as⟩:=a
    simp only at hs hb hk
    subst hs hb hk
    rw[Addr.add_lit]
   have hcell:w.cell? ⟨b,o,none⟩=some (A[o]'(by omega)):=by
    rw[cell_of_row w _ _ _ _ _ h1];simp
   have hfz:w.frozen? ⟨b,o,none⟩=false:=frozen_of_row w _ _ _ _ h1
   have hnew:=heap_setCell_same w b o A el v h1
   have hoth: ∀b',b'≠b->(w.setCell ⟨b,o,none⟩ v).heap[b']? =w.heap[b']? :=fun b' hb'=>heap_setCell_other w _ b' v hb'
   obtain⟨w',g1,g2,g3,g4,g5,g6,g7,g8⟩:=X0a xs vs (cs.set o x) (w.setCell ⟨b,o,none⟩ v) b (o+1) (k+1) a
    ⟨⟨_,el,hnew,by rw[Array.toList_setIfInBounds];exact h2.set hv o⟩,h3⟩ (by simp;omega) hvs hs hb (by omega)
   refine⟨w', ?_,g2,by rw[g3];simp,fun b' hb'=>by rw[g4 b' hb',hoth b' hb'],g5,g6,g7,fun x=>(g8 x).trans (by simp)⟩
   simp only[storeCells,Sem.run_bind]
   rw[hadd,run_store P w _ v .plain hv.one,hcell]
   simp only[hfz,bF,iF,Result.andThen_ok]
   exact g1
def chkSkip:List Nat->Ops->Bool
 |_, .nil=>true
 |D, .op d _ r=>chkSkip (d.toList++D) r
 |D, .lbox _ p _ r=>chkSkip (p::D) r
 |D, .lnew p _ r=>chkSkip (p::D) r
 |D, .st _ _ _ _ r=>chkSkip D r
 |D, .logic _ c inner _ d r=>D.contains c&&chkSkip D inner&&chkSkip (d::dsts inner++D) r
def plain:Ops->Bool
 | .nil=>true
 | .op _ _ r=>plain r
 | .lbox _ _ _ _ | .lnew _ _ _ | .st _ _ _ _ _=>false
 | .logic _ _ i _ _ r=>plain i&&plain r
def isBox(x:X)(o:Oper):Bool:=match o.op with
 | .box _ y=>chkX x y
 |_=>false
def isNew(P:Program)(z:List C)(o:Oper):Bool:=match o.op with
 | .alloc t=>zeroIs P t z
 |_=>false
def isSt(P:Program)(n:Nat)(a x:X)(o:Oper):Bool:=match o.op with
 | .store t b y=>szIs P t n&&chkX a b&&chkX x y
 |_=>false
def isFalse:Operand->Bool
 | .const (.bool false)=>true
 |_=>false
def isTrue:Operand->Bool
 | .const (.bool true)=>true
 |_=>false
def isPick(and:Bool)(c:Nat)(keep:X)(o:Oper):Bool:=match o.op with
 | .pick x A B=>chkX (.t c) x&&(if and then chkX keep A&&isFalse B else isTrue A&&chkX keep B)
 |_=>false
theorem Q0z{x:Operand}(h:isFalse x=true):x= .const (.bool false):=by
 unfold isFalse at h;split at h
 ·rfl
 ·cases h
theorem Z0h{x:Operand}(h:isTrue x=true):x= .const (.bool true):=by
 unfold isTrue at h;split at h
 ·rfl
 ·cases h
abbrev Gd:=Option (Nat×Bool)
def chkOps(P:Program)(ops:Array Oper):Gd->Ops->Nat->Option Nat
 |g, .nil,i=>some 0
 |g, .op d rop r,i=>match ops[i]? with
  |some o=>if o.dst==d&&o.guard==g&&chkOp P rop o then(chkOps P ops g r (i+1)).map (· +1)else none
  |none=>none
 |g, .lbox n p x r,i=>match ops[i]? with
  |some o=>if o.dst==some p&&o.guard==g&&isBox x o then(chkOps P ops g r (i+1)).map (· +1)else none
  |none=>none
 |g, .lnew p z r,i=>match ops[i]? with
  |some o=>if o.dst==some p&&o.guard==g&&isNew P z o then(chkOps P ops g r (i+1)).map (· +1)else none
  |none=>none
 |g, .st hp n a x r,i=>match ops[i]? with
  |some o=>if o.dst==none&&o.guard==g&&isSt P n a x o then(chkOps P ops g r (i+1)).map (· +1)else none
  |none=>none
 |g, .logic and c inner keep d r,i=>match ops[i]? with
  |some o0=>match o0.guard with
   |some (j,want)=>
    if want==and&&(ops[j]?).bind (·.dst)==some c&& !(dsts inner).contains c&&chkSkip [] inner&&plain inner then
     match chkOps P ops (some (j,want)) inner i with
     |some m=>match ops[i+m]? with
      |some o=>if o.dst==some d&&o.guard==g&&isPick and c keep o then(chkOps P ops g r (i+m+1)).map (· +m+1)else none
      |none=>none
     |none=>none
    else none
   |none=>none
  |none=>none
theorem q0V: ∀(xs ys:List Nat) (e:Env),Env.kill (xs++ys) e=Env.kill ys (Env.kill xs e)
 | [],_,_=>rfl
 |x::xs,ys,e=>q0V xs ys (Env.put e x .poison)
theorem k0s{ops:Array Oper}{Q:Exit->Act->World->Prop}{i:Nat}{rest:List Nat}{a:Act}{w:World}{o:Oper}(ho:ops[i]? =some o)(hw:Region.wanted o (yielded ops a.tmps)=true)
  (h:o.wp P a w (wpOps P ops Q rest) Q):wpOps P ops Q (i::rest) a w:=by
 simp only[wpOps,ho,hw,iT];exact .inl h
theorem X0U{ops:Array Oper}{Q:Exit->Act->World->Prop}{i:Nat}{rest:List Nat}{a:Act}{w:World}{o:Oper}(ho:ops[i]? =some o)(hw:Region.wanted o (yielded ops a.tmps)=false)
  (h:wpOps P ops Q rest (a.put o.dst undef) w):wpOps P ops Q (i::rest) a w:=by
 simp only[wpOps,ho,hw,bF,iF];exact h
def offAt(a:Act)(c:Nat)(want:Bool):Prop:= ∀v,a.tmps[c]? =some v->v≠ .bool want
theorem Q0A{ops:Array Oper}{a:Act}{j c:Nat}{want:Bool}{o:Oper}(hg:o.guard=some (j,want))(hj:(ops[j]?).bind (·.dst)=some c)(ho:offAt a c want):Region.wanted o (yielded ops a.tmps)=false:=by
 simp only[Region.wanted,hg,yielded,hj,oS]
 cases hv:a.tmps[c]? with
 |none=>rfl
 |some v=>
  have:=ho v hv
  cases v<;>first |rfl |skip
  rename_i b
  cases b<;>cases want<;>first |rfl |exact absurd rfl this
theorem J0p(a:Act)(d:Nat)(v:Value):(a.put (some d) v).tmps=a.tmps.setIfInBounds d v:=rfl
theorem q0Z(a:Act)(d:Option Nat)(v:Value):(a.put d v).defers=a.defers:=by cases d<;>rfl
theorem q1J{a:Act}{d:Option Nat}{p:Nat}{v:Value}(h:(a.put d undef).tmps[p]? =some v):v=undef\/a.tmps[p]? =some v:=by
 cases d with
 |none=>exact .inr h
 |some d=>
  rw[J0p,Array.getElem?_setIfInBounds]at h
  split at h
  ·split at h
   ·cases h;exact .inl rfl
   ·cases h
  ·exact .inr h
theorem j0A{a:Act}{d:Option Nat}{p:Nat}{v:Value}(h:p∉d.toList):(a.put d v).tmps[p]? =a.tmps[p]? :=by
 cases d with
 |none=>rfl
 |some d=>
  rw[J0p,Array.getElem?_setIfInBounds,if_neg]
  intro e;subst e;simp at h
structure Skipped (ds:List Nat) (a a':Act):Prop where
 defers:a'.defers=a.defers
 other: ∀(p:Nat),p∉ds->a'.tmps[p]? =a.tmps[p]?
 undef_: ∀(p:Nat) v,a'.tmps[p]? =some v->v=undef\/a.tmps[p]? =some v
 dead: ∀(p:Nat),p∈ds-> ∀v,a'.tmps[p]? =some v->v=undef
theorem Skipped.one(a:Act)(d:Option Nat):Skipped d.toList a (a.put d undef):=
 ⟨q0Z _ _ _,fun p hp=>j0A hp,fun p v h=>q1J h,fun p hp v hv=>by
  cases d with
  |none=>simp at hp
  |some d=>
   simp at hp;subst hp
   rw[J0p,Array.getElem?_setIfInBounds]at hv
   simp at hv;exact hv.2.symm⟩
theorem Skipped.append{xs ys:List Nat}{a b c:Act}(h:Skipped xs a b)(k:Skipped ys b c):Skipped (xs++ys) a c:=by
 refine⟨k.defers.trans h.defers,fun p hp=> ?_,fun p v hv=> ?_,fun p hp v hv=> ?_⟩
 ·rw[mA,not_or]at hp
  rw[k.other p hp.2,h.other p hp.1]
 ·rcases k.undef_ p v hv with e |hv
  ·exact .inl e
  ·exact h.undef_ p v hv
 ·by_cases hy:p∈ys
  ·exact k.dead p hy v hv
  ·rw[k.other p hy]at hv
   exact h.dead p ((mA.1 hp).resolve_right hy) v hv
theorem Skipped.off{ds:List Nat}{a a':Act}(h:Skipped ds a a'){c:Nat}{want:Bool}(ho:offAt a c want):offAt a' c want:=fun v hv=>by
 rcases h.undef_ c v hv with rfl |hv
 ·simp[undef]
 ·exact ho v hv
theorem Skipped.keeps{ds D:List Nat}{a a':Act}(h:Skipped ds a a')(hD: ∀(p:Nat),p∈D-> ∀v,a.tmps[p]? =some v->v=undef): ∀(p:Nat),p∈ds++D-> ∀v,a'.tmps[p]? =some v->v=undef:=fun p hp v hv=>by
 by_cases hd:p∈ds
 ·exact h.dead p hd v hv
 ·rw[h.other p hd]at hv
  exact hD p ((mA.1 hp).resolve_left hd) v hv
theorem k0t{ops:Array Oper}{Q:Exit->Act->World->Prop}{φ:Phi}{ψ:Nat->Nat}{w:World}{j c i:Nat}{want:Bool}{d:Option Nat}{a:Act}{e:Env}{o:Oper}{rest:List Nat}
  (hj:(ops[j]?).bind (·.dst)=some c) (ho:ops[i]? =some o) (hd:o.dst=d) (hg:o.guard=some (j,want)) (hoff:offAt a c want) (he:ERel lim base φ ψ e a.tmps w)
  (hK: ∀a',ERel lim base φ ψ (Env.kill d.toList e) a'.tmps w->Skipped d.toList a a'->(∀eo ψo,ERel lim base φ ψo eo a.tmps w->ERel lim base φ ψo (Env.kill d.toList eo) a'.tmps w)->wpOps P ops Q rest a' w):wpOps P ops Q (i::rest) a w:=by
 refine X0U ho (Q0A hg hj hoff) ?_
 rw[hd]
 have key: ∀eo ψo,ERel lim base φ ψo eo a.tmps w->ERel lim base φ ψo (Env.kill d.toList eo) (a.put d undef).tmps w:=by
  intro eo ψo hr
  cases d with
  |none=>exact hr
  |some d=>exact hr.put d (t:= .poison) trivial
 exact hK _ (key _ _ he) (.one a d) key
theorem k1p{ops:Array Oper}{Q:Exit->Act->World->Prop}{φ:Phi}{ψ:Nat->Nat}{w:World}: ∀(os:Ops) (j c:Nat) (want:Bool) (i n:Nat) (D:List Nat) (a:Act) (e:Env) (rest:List Nat),
  (ops[j]?).bind (·.dst)=some c->chkOps P ops (some (j,want)) os i=some n->chkSkip D os=true->offAt a c want->(∀(p:Nat),p∈D-> ∀v,a.tmps[p]? =some v->v=undef)->ERel lim base φ ψ e a.tmps w->
  (∀a',ERel lim base φ ψ (Env.kill (dsts os) e) a'.tmps w->Skipped (dsts os) a a'->(∀eo ψo,ERel lim base φ ψo eo a.tmps w->ERel lim base φ ψo (Env.kill (dsts os) eo) a'.tmps w)->wpOps P ops Q rest a' w)->wpOps P ops Q (List.range' i n++rest) a w:=by
 intro os
 induction os with
 |nil=>
  intro j c want i n D a e rest hj hc hs hoff hD he hK
  simp only[chkOps,oI]at hc;subst hc
  exact hK a he ⟨rfl,fun _ _=>rfl,fun p v h=> .inr h,fun p hp=>by simp[dsts]at hp⟩ (fun _ _ h=>h)
 |op d rop r ih=>
  intro j c want i n D a e rest hj hc hs hoff hD he hK
  simp only[chkOps]at hc
  split at hc
  ·rename_i o ho
   split at hc
   ·rename_i hh
    simp only[bA,beq_iff_eq]at hh
    obtain⟨m,hm,rfl⟩:=oM.1 hc
    rw[List.range'_succ,List.cons_append]
    refine k0t hj ho hh.1.1 hh.1.2 hoff he fun a1 he1 hs1 hall1=> ?_
    refine ih j c want (i+1) m _ a1 _ rest hj hm hs (hs1.off hoff) (hs1.keeps hD) he1 fun a2 he2 hs2 hall2=> ?_
    exact hK a2 (by simp only[dsts];rw[q0V];exact he2) (hs1.append hs2) (fun eo ψo hr=>by simp only[dsts];rw[q0V];exact hall2 _ _ (hall1 _ _ hr))
   ·cases hc
  ·cases hc
 |lbox n' p x r ih=>
  intro j c want i n D a e rest hj hc hs hoff hD he hK
  simp only[chkOps]at hc
  split at hc
  ·rename_i o ho
   split at hc
   ·rename_i hh
    simp only[bA,beq_iff_eq]at hh
    obtain⟨m,hm,rfl⟩:=oM.1 hc
    rw[List.range'_succ,List.cons_append]
    refine k0t hj ho hh.1.1 hh.1.2 hoff he fun a1 he1 hs1 hall1=> ?_
    refine ih j c want (i+1) m _ a1 _ rest hj hm hs (hs1.off hoff) (hs1.keeps hD) he1 fun a2 he2 hs2 hall2=> ?_
    exact hK a2 he2 (hs1.append hs2) (fun eo ψo hr=>hall2 _ _ (hall1 _ _ hr))
   ·cases hc
  ·cases hc
 |lnew p z r ih=>
  intro j c want i n D a e rest hj hc hs hoff hD he hK
  simp only[chkOps]at hc
  split at hc
  ·rename_i o ho
   split at hc
   ·rename_i hh
    simp only[bA,beq_iff_eq]at hh
    obtain⟨m,hm,rfl⟩:=oM.1 hc
    rw[List.range'_succ,List.cons_append]
    refine k0t hj ho hh.1.1 hh.1.2 hoff he fun a1 he1 hs1 hall1=> ?_
    refine ih j c want (i+1) m _ a1 _ rest hj hm hs (hs1.off hoff) (hs1.keeps hD) he1 fun a2 he2 hs2 hall2=> ?_
    exact hK a2 he2 (hs1.append hs2) (fun eo ψo hr=>hall2 _ _ (hall1 _ _ hr))
   ·cases hc
  ·cases hc
 |st hp n' b x r ih=>
  intro j c want i n D a e rest hj hc hs hoff hD he hK
  simp only[chkOps]at hc
  split at hc
  ·rename_i o ho
   split at hc
   ·rename_i hh
    simp only[bA,beq_iff_eq]at hh
    obtain⟨m,hm,rfl⟩:=oM.1 hc
    rw[List.range'_succ,List.cons_append]
    refine k0t hj ho hh.1.1 hh.1.2 hoff he fun a1 he1 hs1 hall1=> ?_
    refine ih j c want (i+1) m _ a1 _ rest hj hm hs (hs1.off hoff) (hs1.keeps hD) he1 fun a2 he2 hs2 hall2=> ?_
    exact hK a2 he2 (hs1.append hs2) (fun eo ψo hr=>hall2 _ _ (hall1 _ _ hr))
   ·cases hc
  ·cases hc
 |logic and c2 inner keep d r ih1 ih2=>
  intro j c want i n D a e rest hj hc hs hoff hD he hK
  simp only[chkOps]at hc
  split at hc
  ·rename_i o0 ho0
   split at hc
   ·rename_i j2 want2 hg2
    split at hc
    ·rename_i hh
     simp only[bA,beq_iff_eq]at hh
     obtain⟨⟨⟨⟨rfl,hj2⟩,hnot⟩,hskip⟩,hplain⟩:=hh
     split at hc
     ·rename_i m1 hm1
      split at hc
      ·rename_i o ho
       split at hc
       ·rename_i hh2
        simp only[bA,beq_iff_eq]at hh2
        obtain⟨m,hm,rfl⟩:=oM.1 hc
        simp only[chkSkip,bA,List.contains_eq_mem,dE]at hs
        obtain⟨⟨hs1,hs2⟩,hs3⟩:=hs
        have hsplit:List.range' i (m+m1+1)++rest=List.range' i m1++(i+m1)::(List.range' (i+m1+1) m++rest):=by
         rw[<-List.cons_append,<-List.range'_succ,<-List.append_assoc,List.range'_append_1]
         congr 2;omega
        rw[hsplit]
        have hoff2:offAt a c2 want2:=fun v hv=>by rw[hD c2 hs1 v hv];simp[undef]
        refine ih1 j2 c2 want2 i m1 D a e _ hj2 hm1 hs2 hoff2 hD he fun a1 he1 hk1 hall1=> ?_
        refine k0t hj ho hh2.1.1 hh2.1.2 (hk1.off hoff) he1 fun a2 he2 hk2 hall2=> ?_
        have hk12:=hk1.append hk2
        refine ih2 j c want (i+m1+1) m _ a2 _ rest hj hm hs3 (hk12.off hoff) (fun p hp v hv=> ?_) he2 fun a3 he3 hk3 hall3=> ?_
        ·refine hk12.keeps hD p ?_ v hv
         simp only[Option.toList,mA,mC,List.not_mem_nil,or_false]at hp⊢
         rcases hp with(rfl |hp) |hp
         ·exact .inl (.inr rfl)
         ·exact .inl (.inl hp)
         ·exact .inr hp
        ·refine hK a3 ?_ ?_ (fun eo ψo hr=>by simp only[dsts];rw[q0V];exact hall3 _ _ (hall2 _ _ (hall1 _ _ hr)))
         ·simp only[dsts];rw[q0V];exact he3
         ·have:=hk12.append hk3
          simp only[dsts]
          simpa using this
       ·cases hc
      ·cases hc
     ·cases hc
    ·cases hc
   ·cases hc
  ·cases hc
theorem Z0i{e:Env}{p q:Nat}{t:T}(h:(e.map (T.purge p))[q]? =some t): ∃u,e[q]? =some u/\(t=u\/t= .poison)/\ ∀r o,t= .laddr r o->r≠p:=by
 rw[List.getElem?_map]at h
 cases hq:e[q]? with
 |none=>rw[hq]at h;cases h
 |some u=>
  rw[hq]at h;simp only[Option.map_some,oI]at h;subst h
  refine⟨u,rfl, ?_,fun r o hr=> ?_⟩
  ·rcases q0n p u with h |⟨h,_⟩
   ·exact .inl h
   ·exact .inr h
  ·cases u with
   |laddr q' o'=>
    simp only[T.purge]at hr
    split at hr
    ·cases hr
    ·rename_i hne;cases hr;exact hne
   |_=>cases hr
theorem ERel.local_{φ:Phi}{ψ:Nat->Nat}{e:Env}{ts:Array Value}{w:World}{H:Heap}(h:ERel lim base φ ψ e ts w)(hH:HRel lim φ H w)(hb:base<=w.heap.size)(p:Nat){cs:List C}{A:Array Value}(hA:CsRel lim φ cs A.toList)(t:TypeId):
  ERel lim base φ (fun q=>if q=p then w.heap.size else ψ q) ((e.map (T.purge p)).set p (.loc cs)) (ts.setIfInBounds p (.pointer (some ⟨w.heap.size,0,none⟩))) (w.alloc (.cells A t)):=by
 have hext:=Ext.push (lim:=lim) φ w A t
 have hnew:LocRel lim φ (w.alloc (.cells A t)) w.heap.size cs:=
  ⟨⟨A,t,heap_alloc_new _ _,hA⟩,fun j q hq e'=>by have:=hH.bound j q hq;omega⟩
 have hget: ∀(q:Nat) t',((e.map (T.purge p)).set p (.loc cs))[q]? =some t'->(q=p/\t'= .loc cs)\/(q≠p/\(e.map (T.purge p))[q]? =some t'):=by
  intro q t' hq
  by_cases hqp:q=p
  ·subst hqp
   have hlt:=(gE.1 hq).1
   rw[List.getElem?_set_self (by simpa using hlt)]at hq
   cases hq;exact .inl ⟨rfl,rfl⟩
  ·rw[List.getElem?_set_ne (Ne.symm hqp)]at hq
   exact .inr ⟨hqp,hq⟩
 have hold: ∀(q:Nat) cs',q≠p->(e.map (T.purge p))[q]? =some (.loc cs')->e[q]? =some (.loc cs')/\ψ q<w.heap.size:=by
  intro q cs' hqp hq
  obtain⟨u,hu,hor,_⟩:=Z0i hq
  rcases hor with rfl |h'
  ·obtain⟨x,hx,hr⟩:=h.tmp q _ hu
   exact⟨hu,hr.2.lt⟩
  ·cases h'
 refine⟨by simp[h.len],fun q t' hq=> ?_,fun q r cs1 cs2 hq hr e'=> ?_,fun q cs1 hq=> ?_⟩
 ·rcases hget q t' hq with⟨rfl,rfl⟩ |⟨hqp,hq'⟩
  ·have hlt:q<ts.size:=by
    have:=(gE.1 hq).1
    rw[<-h.len];simpa using this
   refine⟨.pointer (some ⟨w.heap.size,0,none⟩),by simp[hlt], ?_⟩
   simp only[TRel,iT]
   exact⟨trivial,hnew⟩
  ·obtain⟨u,hu,hor,hla⟩:=Z0i hq'
   obtain⟨x,hx,hr⟩:=h.tmp q u hu
   refine⟨x,by rw[Array.getElem?_setIfInBounds,if_neg (Ne.symm hqp)];exact hx, ?_⟩
   rcases hor with rfl |rfl
   ·cases t' with
    |poison=>trivial
    |val v=>exact hr
    |loc cs'=>exact⟨by simp[hqp,hr.1],by simpa[hqp]using hr.2.ext hext⟩
    |laddr r o=>
     have hrp:=hla r o rfl
     obtain⟨h1,cs',h2⟩:=hr
     refine⟨by simp[hrp,h1],cs', ?_⟩
     rw[List.getElem?_set_ne (Ne.symm hrp),List.getElem?_map,h2];rfl
   ·trivial
 ·rcases hget q _ hq with⟨rfl,_⟩ |⟨hqp,hq'⟩<;>rcases hget r _ hr with⟨rfl,_⟩ |⟨hrp,hr'⟩
  ·rfl
  ·have:=(hold r cs2 hrp hr').2
   simp only[iT,hrp,iF]at e';omega
  ·have:=(hold q cs1 hqp hq').2
   simp only[iT,hqp,iF]at e';omega
  ·simp only[hqp,hrp,iF]at e'
   exact h.inj q r cs1 cs2 (hold q cs1 hqp hq').1 (hold r cs2 hrp hr').1 e'
 ·rcases hget q _ hq with⟨rfl,_⟩ |⟨hqp,hq'⟩
  ·simpa using hb
  ·simp only[hqp,iF]
   exact h.low q cs1 (hold q cs1 hqp hq').1
theorem ERel.write{φ:Phi}{ψ:Nat->Nat}{e:Env}{ts:Array Value}{w w':World}(h:ERel lim base φ ψ e ts w){p:Nat}{cs cs':List C}(hp:e[p]? =some (.loc cs))(hl:LocRel lim φ w' (ψ p) cs')
  (ho: ∀b,b≠ψ p->w'.heap[b]? =w.heap[b]?):ERel lim base φ ψ (e.set p (.loc cs')) ts w':=by
 have hget: ∀(q:Nat) t',(e.set p (.loc cs'))[q]? =some t'->(q=p/\t'= .loc cs')\/(q≠p/\e[q]? =some t'):=by
  intro q t' hq
  by_cases hqp:q=p
  ·subst hqp
   have hlt:=(gE.1 hq).1
   rw[List.getElem?_set_self (by simpa using hlt)]at hq
   cases hq;exact .inl ⟨rfl,rfl⟩
  ·rw[List.getElem?_set_ne (Ne.symm hqp)]at hq
   exact .inr ⟨hqp,hq⟩
 have hloc: ∀(q:Nat) cs1,(e.set p (.loc cs'))[q]? =some (.loc cs1)-> ∃cs2,e[q]? =some (.loc cs2):=by
  intro q cs1 hq
  rcases hget q _ hq with⟨rfl,_⟩ |⟨_,hq⟩
  ·exact⟨cs,hp⟩
  ·exact⟨cs1,hq⟩
 refine⟨by simp[h.len],fun q t' hq=> ?_,fun q r cs1 cs2 hq hr e'=> ?_,fun q cs1 hq=> ?_⟩
 ·rcases hget q t' hq with⟨rfl,rfl⟩ |⟨hqp,hq'⟩
  ·obtain⟨x,hx,hr⟩:=h.tmp q _ hp
   exact⟨x,hx,hr.1,hl⟩
  ·obtain⟨x,hx,hr⟩:=h.tmp q t' hq'
   refine⟨x,hx, ?_⟩
   cases t' with
   |poison=>trivial
   |val v=>exact hr
   |loc cs1=>
    refine⟨hr.1, ?_⟩
    have hne:ψ q≠ψ p:=fun e'=>hqp (h.inj q p _ _ hq' hp e')
    obtain⟨⟨A,el,h1,h2⟩,h3⟩:=hr.2
    exact⟨⟨A,el,by rw[ho _ hne];exact h1,h2⟩,h3⟩
   |laddr r o=>
    obtain⟨h1,cs2,h2⟩:=hr
    refine⟨h1, ?_⟩
    by_cases hrp:r=p
    ·subst hrp
     exact⟨cs',by rw[List.getElem?_set_self];exact(gE.1 h2).1⟩
    ·exact⟨cs2,by rw[List.getElem?_set_ne (Ne.symm hrp)];exact h2⟩
 ·obtain⟨c1,h1⟩:=hloc q cs1 hq
  obtain⟨c2,h2⟩:=hloc r cs2 hr
  exact h.inj q r c1 c2 h1 h2 e'
 ·obtain⟨c1,h1⟩:=hloc q cs1 hq
  exact h.low q c1 h1
theorem Ext.write{φ0 φ:Phi}{w0 w w':World}(h:Ext lim φ0 w0 φ w){B:Nat}(hB:w0.heap.size<=B)(hs:w'.heap.size=w.heap.size)(ho: ∀b,b≠B->w'.heap[b]? =w.heap[b]?)(h1:w'.os=w.os)(h2:w'.tape=w.tape)(h3:w'.output=w.output)(h4: ∀x,w'.frozen? x=w.frozen? x):
  Ext lim φ0 w0 φ w':=
 ⟨h.mono,h.fresh,by rw[hs];exact h.size,fun b hb hn=>by rw[ho b (by omega)];exact h.same b hb hn,h1.trans h.os,h2.trans h.tape,h3.trans h.output,fun x=>(h4 x).trans (h.froz x)⟩
def gOK(ops:Array Oper)(g:Gd)(a:Act)(ds:List Nat):Prop:=
 match g with
 |none=>True
 |some (j,want)=> ∃c,(ops[j]?).bind (·.dst)=some c/\a.tmps[c]? =some (.bool want)/\c∉ds
theorem gOK.wanted{ops:Array Oper}{g:Gd}{a:Act}{ds:List Nat}(h:gOK ops g a ds){o:Oper}(hg:o.guard=g):Region.wanted o (yielded ops a.tmps)=true:=by
 cases g with
 |none=>simp[Region.wanted,hg]
 |some x=>
  obtain⟨j,want⟩:=x
  obtain⟨c,h1,h2,_⟩:=h
  simp[Region.wanted,hg,yielded,h1,h2]
theorem gOK.next{ops:Array Oper}{g:Gd}{a a':Act}{xs ys:List Nat}(h:gOK ops g a (xs++ys))(ho: ∀(p:Nat),p∉xs->a'.tmps[p]? =a.tmps[p]?):gOK ops g a' ys:=by
 cases g with
 |none=>trivial
 |some x=>
  obtain⟨j,want⟩:=x
  obtain⟨c,h1,h2,h3⟩:=h
  rw[mA,not_or]at h3
  exact⟨c,h1,by rw[ho c h3.1];exact h2,h3.2⟩
def Priv(lim:Nat)(φ:Phi)(w:World)(e:Env)(ψ:Nat->Nat)(b:Nat)(cs:List C):Prop:=LocRel lim φ w b cs/\ ∀(p:Nat) c,e[p]? =some (.loc c)->ψ p≠b
theorem z0G{e:Env}{d p:Nat}{t:T}{c:List C}(ht: ∀c,t≠ .loc c)(h:(e.put d t)[p]? =some (.loc c)):e[p]? =some (.loc c):=by
 unfold Env.put at h
 have hpt: ∀c,t.purge d≠ .loc c:=fun c hc=>by
  rcases q0n d t with h1 |⟨h1,_⟩
  ·rw[h1]at hc;exact ht c hc
  ·rw[h1]at hc;cases hc
 split at h
 ·rw[List.getElem?_set]at h
  split at h
  ·split at h
   ·exact absurd (Option.some.inj h) (hpt _)
   ·cases h
  ·rw[List.getElem?_map]at h
   obtain⟨u,hu,h2⟩:=oM.1 h
   rcases q0n d u with h1 |⟨h1,_⟩
   ·rw[h1]at h2;rw[hu,h2]
   ·rw[h1]at h2;cases h2
 ·rw[List.getElem?_set]at h
  split at h
  ·split at h
   ·exact absurd (Option.some.inj h) (hpt _)
   ·cases h
  ·exact h
theorem w0O: ∀{ds:List Nat} {e:Env} {p:Nat} {c:List C},(Env.kill ds e)[p]? =some (.loc c)->e[p]? =some (.loc c)
 | [],_,_,_,h=>h
 |d::ds,_,_,_,h=>z0G (fun _ h=>by cases h) (w0O (ds:=ds) h)
theorem X0b{e:Env}{d p:Nat}{xs c:List C}(h:((e.map (T.purge d)).set d (.loc xs))[p]? =some (.loc c)):p=d\/e[p]? =some (.loc c):=by
 rw[List.getElem?_set]at h
 split at h
 ·rename_i hd;exact .inl hd.symm
 ·right
  rw[List.getElem?_map]at h
  obtain⟨u,hu,h2⟩:=oM.1 h
  rcases q0n d u with h1 |⟨h1,_⟩
  ·rw[h1]at h2;rw[hu,h2]
  ·rw[h1]at h2;cases h2
structure Left (lim base:Nat) (φ0:Phi) (w0:World) (ds:List Nat) (pl:Bool) (e:Env) (ψ:Nat->Nat) (φ:Phi) (w:World) (a:Act) (e':Env) (H':Heap) (φ':Phi) (ψ':Nat->Nat) (a':Act) (w':World):Prop where
 env:ERel lim base φ' ψ' e' a'.tmps w'
 heap:HRel lim φ' H' w'
 ext:Ext lim φ0 w0 φ' w'
 defers:a'.defers=a.defers
 other: ∀(p:Nat),p∉ds->a'.tmps[p]? =a.tmps[p]?
 priv: ∀b cs,Priv lim φ w e ψ b cs->Priv lim φ' w' e' ψ' b cs
 old:pl=true-> ∀eo ψo,ERel lim base φ ψo eo a.tmps w->ERel lim base φ' ψo (Env.kill ds eo) a'.tmps w'
theorem Left.before{φ0:Phi}{w0:World}{xs ys:List Nat}{pl pl2:Bool}{e e1:Env}{ψ ψ1 ψ':Nat->Nat}{φ φ1:Phi}{w w1:World}{a a1:Act}{e':Env}{H':Heap}{φ':Phi}{a':Act}{w':World}
  (h:Left lim base φ0 w0 ys pl2 e1 ψ1 φ1 w1 a1 e' H' φ' ψ' a' w') (hpv: ∀b cs,Priv lim φ w e ψ b cs->Priv lim φ1 w1 e1 ψ1 b cs) (hd:a1.defers=a.defers) (ho: ∀(p:Nat),p∉xs->a1.tmps[p]? =a.tmps[p]?)
  (he:pl=true->pl2=true/\ ∀eo ψo,ERel lim base φ ψo eo a.tmps w->ERel lim base φ1 ψo (Env.kill xs eo) a1.tmps w1):
  Left lim base φ0 w0 (xs++ys) pl e ψ φ w a e' H' φ' ψ' a' w':=
 ⟨h.env,h.heap,h.ext,h.defers.trans hd,fun p hp=>by rw[mA,not_or]at hp;rw[h.other p hp.2,ho p hp.1],fun b cs hb=>h.priv b cs (hpv b cs hb),fun hp eo ψo hr=>by
  obtain⟨h1,h2⟩:=he hp;rw[q0V];exact h.old h1 _ _ (h2 _ _ hr)⟩
theorem ERel.putO{φ:Phi}{ψ:Nat->Nat}{e:Env}{a:Act}{w:World}(h:ERel lim base φ ψ e a.tmps w)(d:Option Nat){t:T}{x:Value}(ht:ORel lim φ ψ e t x):ERel lim base φ ψ (e.putO d t) (a.put d x).tmps w:=by
 cases d with
 |none=>exact h
 |some d=>exact h.put d ht
section main
variable{call:CallT}(hcall:CallOK lim P call){ops:Array Oper}{Q:Exit->Act->World->Prop}{φ0:Phi}{w0:World}
include hcall
set_option maxHeartbeats 1000000 in
theorem Z0j: ∀(os:Ops) {R:Type} (K:Env->Heap->Option R) (r:R) (g:Gd) (i n:Nat) (a:Act) (e:Env) (H:Heap) (φ:Phi) (ψ:Nat->Nat) (w:World) (rest:List Nat),
  chkOps P ops g os i=some n->gOK ops g a (dsts os)->runOps lim call os e H K=some r->ERel lim w0.heap.size φ ψ e a.tmps w->HRel lim φ H w->Ext lim φ0 w0 φ w->
  (∀e' H' φ' ψ' a' w',K e' H'=some r->Left lim w0.heap.size φ0 w0 (dsts os) (plain os) e ψ φ w a e' H' φ' ψ' a' w'->wpOps P ops Q rest a' w')->wpOps P ops Q (List.range' i n++rest) a w:=by
 intro os
 induction os with
 |nil=>
  intro R K r g i n a e H φ ψ w rest hc hg h he hH hx hK
  simp only[chkOps,oI]at hc;subst hc
  exact hK _ _ _ _ _ _ h ⟨he,hH,hx,rfl,fun _ _=>rfl,fun _ _ h=>h,fun _ _ _ h=>h⟩
 |op d rop os ih=>
  intro R K r g i n a e H φ ψ w rest hc hg h he hH hx hK
  simp only[chkOps]at hc
  split at hc
  ·rename_i o hoi
   split at hc
   ·rename_i hh
    simp only[bA,beq_iff_eq]at hh
    obtain⟨⟨hd,hgd⟩,hop⟩:=hh
    obtain⟨m,hm,rfl⟩:=oM.1 hc
    rw[List.range'_succ,List.cons_append]
    refine k0s hoi (hg.wanted hgd) ?_
    simp only[runOps]at h
    refine z1L hcall hop he hH h fun t H' φ' w' v hK' hH' hx' hv=> ?_
    rw[hd]
    have hother: ∀(p:Nat),p∉d.toList->(a.put d v).tmps[p]? =a.tmps[p]? :=fun p hp=>j0A hp
    refine ih K r g (i+1) m (a.put d v) (e.putO d t) H' φ' ψ w' rest hm (hg.next (xs:=d.toList) (by simpa[dsts]using hother)) hK' ((he.ext hx').putO d hv) hH' (hx.trans hx') (fun e2 H2 φ2 ψ2 a2 w2 hk hl=> ?_)
    exact hK _ _ _ _ _ _ hk (hl.before (xs:=d.toList) (fun b cs hb=>⟨hb.1.ext hx',fun p c hp=>hb.2 p c (by
     cases d with
     |none=>exact hp
     |some d=>exact z0G (fun c hc=>by subst hc;exact hv) hp)⟩) (q0Z _ _ _) hother (fun hp=>⟨by simpa[plain]using hp,fun eo ψo hr=>by
     have:=hr.ext hx'
     cases d with
     |none=>exact this
     |some d=>exact this.put d (t:= .poison) trivial⟩))
   ·cases hc
  ·cases hc
 |lbox n' p x os ih=>
  intro R K r g i n a e H φ ψ w rest hc hg h he hH hx hK
  simp only[chkOps]at hc
  split at hc
  ·rename_i o hoi
   split at hc
   ·rename_i hh
    simp only[bA,beq_iff_eq]at hh
    obtain⟨⟨hd,hgd⟩,hop⟩:=hh
    obtain⟨m,hm,rfl⟩:=oM.1 hc
    rw[List.range'_succ,List.cons_append]
    refine k0s hoi (hg.wanted hgd) ?_
    simp only[runOps]at h
    obtain⟨v,hv,h⟩:=oB.1 h
    obtain⟨xs,hxs,h⟩:=oB.1 h
    split at h
    ·unfold isBox at hop
     split at hop
     ·rename_i t y hbx
      have hr:=(q0R he hop hv).cells hxs
      refine q0u (v:= .pointer (some ⟨w.heap.size,0,none⟩)) (w':=w.alloc (.cells (a.eval y).cells t)) (by simp[execOp,hbx,Instr.box,newVar,newRow]) ?_
      rw[hd]
      have hother: ∀(q:Nat),q∉[p]->(a.put (some p) (.pointer (some ⟨w.heap.size,0,none⟩))).tmps[q]? =a.tmps[q]? :=fun q hq=>j0A (d:=some p) (by simpa using hq)
      have hnew:=he.local_ hH hx.size p hr t
      refine ih K r g (i+1) m (a.put (some p) (.pointer (some ⟨w.heap.size,0,none⟩))) _ H φ _ _ rest hm (hg.next (xs:=[p]) (by simpa[dsts]using hother)) h hnew (hH.push _) (hx.trans (Ext.push φ w _ _)) (fun e2 H2 φ2 ψ2 a2 w2 hk hl=> ?_)
      exact hK _ _ _ _ _ _ hk (hl.before (xs:=[p]) (fun b cs hb=>⟨hb.1.ext (Ext.push φ w _ _),fun q c hq=>by
      have hlt:=hb.1.lt
      rcases X0b hq with rfl |hq
      ·simp only[iT];omega
      ·by_cases hqp:q=p
       ·simp only[hqp,iT];omega
       ·simp only[hqp,iF];exact hb.2 q c hq⟩) (q0Z _ _ _) hother (fun hp=>by simp[plain]at hp))
     ·cases hop
    ·cases h
   ·cases hc
  ·cases hc
 |lnew p z os ih=>
  intro R K r g i n a e H φ ψ w rest hc hg h he hH hx hK
  simp only[chkOps]at hc
  split at hc
  ·rename_i o hoi
   split at hc
   ·rename_i hh
    simp only[bA,beq_iff_eq]at hh
    obtain⟨⟨hd,hgd⟩,hop⟩:=hh
    obtain⟨m,hm,rfl⟩:=oM.1 hc
    rw[List.range'_succ,List.cons_append]
    refine k0s hoi (hg.wanted hgd) ?_
    simp only[runOps]at h
    unfold isNew at hop
    split at hop
    ·rename_i t hbx
     obtain⟨ti,zv,hi,hz,hcs,hsz⟩:=j0l hop
     refine q0u (v:= .pointer (some ⟨w.heap.size,0,none⟩)) (w':=w.alloc (.cells zv.cells t)) (by simp[execOp,hbx,Instr.alloc,newVar,newRow,q0P hi hz]) ?_
     rw[hd]
     have hother: ∀(q:Nat),q∉[p]->(a.put (some p) (.pointer (some ⟨w.heap.size,0,none⟩))).tmps[q]? =a.tmps[q]? :=fun q hq=>j0A (d:=some p) (by simpa using hq)
     have hnew:=he.local_ hH hx.size p (q0w hcs) t
     refine ih K r g (i+1) m (a.put (some p) (.pointer (some ⟨w.heap.size,0,none⟩))) _ H φ _ _ rest hm (hg.next (xs:=[p]) (by simpa[dsts]using hother)) h hnew (hH.push _) (hx.trans (Ext.push φ w _ _)) (fun e2 H2 φ2 ψ2 a2 w2 hk hl=> ?_)
     exact hK _ _ _ _ _ _ hk (hl.before (xs:=[p]) (fun b cs hb=>⟨hb.1.ext (Ext.push φ w _ _),fun q c hq=>by
      have hlt:=hb.1.lt
      rcases X0b hq with rfl |hq
      ·simp only[iT];omega
      ·by_cases hqp:q=p
       ·simp only[hqp,iT];omega
       ·simp only[hqp,iF];exact hb.2 q c hq⟩) (q0Z _ _ _) hother (fun hp=>by simp[plain]at hp))
    ·cases hop
   ·cases hc
  ·cases hc
 |st hp n' b x os ih=>
  intro R K r g i n a e H φ ψ w rest hc hg h he hH hx hK
  simp only[chkOps]at hc
  split at hc
  ·rename_i o hoi
   split at hc
   ·rename_i hh
    simp only[bA,beq_iff_eq]at hh
    obtain⟨⟨hd,hgd⟩,hop⟩:=hh
    obtain⟨m,hm,rfl⟩:=oM.1 hc
    rw[List.range'_succ,List.cons_append]
    refine k0s hoi (hg.wanted hgd) ?_
    simp only[runOps]at h
    obtain⟨v,hv,h⟩:=oB.1 h
    obtain⟨xs,hxs,h⟩:=oB.1 h
    split at h
    ·cases h
    ·rename_i hlen
     simp only[ne_eq,Decidable.not_not]at hlen
     unfold isSt at hop
     split at hop
     ·rename_i t b' y hst
      simp only[bA]at hop
      obtain⟨⟨hsz,hcb⟩,hcx⟩:=hop
      have hr:=(q0R he hcx hv).cells hxs
      have hl:=hr.length
      have hfit: ¬((a.eval y).cells.size≠n'):=by simp at hl⊢;omega
      rcases q0x h with⟨p,o',hpl,h⟩ |⟨j,o',hpl,h⟩
      ·obtain⟨hav,cs,h1,h2⟩:=q0q he hcb hpl
       split at h
       ·cases h
       obtain⟨cs',hcs,h⟩:=oB.1 h
       have:=j0i hcs h1;subst this
       split at h
       ·rename_i hle
        obtain⟨w',g1,g2,g3,g4,g5,g6,g7,g8⟩:=X0a (P:=P) xs (a.eval y).cells.toList cs' w (ψ p) o' 0 ⟨ψ p,o',none⟩ h2 (by omega) hr rfl rfl rfl
        refine j0R (w':=w') (by simp[execOp,hst,Instr.storeAt,hav,Instr.sureAddr,storeVar,q0m hsz,hfit,g1]) ?_
        rw[hd]
        refine ih K r g (i+1) m a _ H φ ψ w' rest hm hg h (he.write h1 g2 g4) (hH.other (fun j q hq=>h2.2 j q hq) g3 g4) (hx.write (he.low p _ h1) g3 g4 g5 g6 g7 g8) (fun e2 H2 φ2 ψ2 a2 w2 hk hl=> ?_)
        exact hK _ _ _ _ _ _ hk (hl.before (xs:=[]) (fun b cs hb=>⟨⟨by
         obtain⟨⟨A,el,k1,k2⟩,k3⟩:=hb.1
         exact⟨A,el,by rw[g4 b (fun e'=>hb.2 p _ h1 e'.symm)];exact k1,k2⟩,hb.1.2⟩,fun q c hq=>by
         rw[List.getElem?_set]at hq
         split at hq
         ·rename_i hpq;subst hpq;exact hb.2 _ _ h1
         ·exact hb.2 q c hq⟩) rfl (fun _ _=>rfl) (fun hp=>by simp[plain]at hp))
       ·cases h
      ·obtain⟨p,hp,hav⟩:=q0q he hcb hpl
       split at h
       ·cases h
       obtain⟨H',hst',h⟩:=oB.1 h
       obtain⟨w',g1,g2,g3⟩:=hH.st (P:=P) hst' hr hp
       refine j0R (w':=w') (by simp[execOp,hst,Instr.storeAt,hav,Instr.sureAddr,storeVar,q0m hsz,hfit,g1]) ?_
       rw[hd]
       refine ih K r g (i+1) m a _ H' φ ψ w' rest hm hg h (he.ext g3) g2 (hx.trans g3) (fun e2 H2 φ2 ψ2 a2 w2 hk hl=> ?_)
       exact hK _ _ _ _ _ _ hk (hl.before (xs:=[]) (fun b cs hb=>⟨hb.1.ext g3,hb.2⟩) rfl (fun _ _=>rfl) (fun hp=>by simp[plain]at hp))
     ·cases hop
   ·cases hc
  ·cases hc
 |logic and c inner keep d os ih1 ih2=>
  intro R K r g i n a e H φ ψ w rest hc hg h he hH hx hK
  simp only[chkOps]at hc
  split at hc
  ·rename_i o0 ho0
   split at hc
   ·rename_i j2 want2 hg2
    split at hc
    ·rename_i hh
     simp only[bA,beq_iff_eq,bN,List.contains_eq_mem,dN]at hh
     obtain⟨⟨⟨⟨rfl,hj2⟩,hnot⟩,hskip⟩,hpl⟩:=hh
     split at hc
     ·rename_i m1 hm1
      split at hc
      ·rename_i o hoi
       split at hc
       ·rename_i hh2
        simp only[bA,beq_iff_eq]at hh2
        obtain⟨⟨hd,hgd⟩,hpick⟩:=hh2
        obtain⟨m,hm,rfl⟩:=oM.1 hc
        have hsplit:List.range' i (m+m1+1)++rest=List.range' i m1++(i+m1)::(List.range' (i+m1+1) m++rest):=by
         rw[<-List.cons_append,<-List.range'_succ,<-List.append_assoc,List.range'_append_1]
         congr 2;omega
        rw[hsplit]
        simp only[runOps]at h
        obtain⟨b,hb,h⟩:=oB.1 h
        obtain⟨⟨q,H1⟩,hq,h⟩:=oB.1 h
        have hbt:a.tmps[c]? =some (.bool b):=by
         have:=z0c he (x:= .t c) (y:= .tmp c) (by simp[chkX]) hb
         simp only[Act.eval]at this
         cases hv:a.tmps[c]? with
         |none=>simp[hv,undef]at this
         |some v=>simp[hv]at this;rw[this]
        have tail: ∀(a1:Act) (w1:World) (φ1:Phi),ERel lim w0.heap.size φ1 ψ (Env.kill (dsts inner) e) a1.tmps w1->HRel lim φ1 H1 w1->Ext lim φ0 w0 φ1 w1->a1.defers=a.defers->(∀(p:Nat),p∉dsts inner->a1.tmps[p]? =a.tmps[p]?)->
          (∀eo ψo,ERel lim w0.heap.size φ ψo eo a.tmps w->ERel lim w0.heap.size φ1 ψo (Env.kill (dsts inner) eo) a1.tmps w1)->(∀b cs,Priv lim φ w e ψ b cs->LocRel lim φ1 w1 b cs)->(∀y,(want2=b->chkX keep y=true->a1.eval y= .bool q))->(want2≠b->q=b)->
          wpOps P ops Q ((i+m1)::(List.range' (i+m1+1) m++rest)) a1 w1:=by
         intro a1 w1 φ1 he1 hH1 hx1 hd1 ho1 hold1 hpv1 hkeep hnk
         have hg1:gOK ops g a1 (d::dsts os):=hg.next (xs:=dsts inner) ho1
         refine k0s hoi (hg1.wanted hgd) ?_
         have hct:a1.eval (.tmp c)= .bool b:=by
          have:=ho1 c hnot
          rw[hbt]at this
          simp[Act.eval,this]
         refine q0u (v:= .bool q) (w':=w1) ?_ ?_
         ·unfold isPick at hpick
          split at hpick
          ·rename_i x A B hop
           simp only[bA]at hpick
           obtain⟨hcx,hpick⟩:=hpick
           have hx':x= .tmp c:=by cases x<;>simp[chkX]at hcx;rw[hcx]
           subst hx'
           cases want2 with
           |true=>
            simp only[iT,bA]at hpick
            have hB:=Q0z hpick.2
            subst hB
            cases b with
            |true=>simp[execOp,hop,hct,asBool,hkeep A rfl hpick.1]
            |false=>
             have hq0:q=false:=hnk (by simp)
             have hev:a1.eval (.const (.bool false))= .bool false:=rfl
             simp[execOp,hop,hct,asBool,hev,hq0]
           |false=>
            simp only[bF,iF,bA]at hpick
            have hA:=Z0h hpick.1
            subst hA
            cases b with
            |false=>simp[execOp,hop,hct,asBool,hkeep B rfl hpick.2]
            |true=>
             have hq0:q=true:=hnk (by simp)
             have hev:a1.eval (.const (.bool true))= .bool true:=rfl
             simp[execOp,hop,hct,asBool,hev,hq0]
          ·cases hpick
         ·rw[hd]
          have hother: ∀(p:Nat),p∉[d]->(a1.put (some d) (.bool q)).tmps[p]? =a1.tmps[p]? :=fun p hp=>j0A (d:=some d) (by simpa using hp)
          refine ih2 K r g (i+m1+1) m (a1.put (some d) (.bool q)) _ H1 φ1 ψ w1 rest hm (hg1.next (xs:=[d]) hother) h (he1.put d (.c (.bool q))) hH1 hx1
           (fun e2 H2 φ2 ψ2 a2 w2 hk hl=> ?_)
          have h1:Left lim w0.heap.size φ0 w0 (dsts inner++[d]++dsts os) (plain (.logic want2 c inner keep d os)) e ψ φ w a e2 H2 φ2 ψ2 a2 w2:=by
           refine hl.before (xs:=dsts inner++[d]) (fun b cs hb=>⟨hpv1 b cs hb,fun q c hq=>hb.2 q c (w0O (z0G (fun c hc=>by cases hc) hq))⟩) ((q0Z _ _ _).trans hd1) (fun p hp=> ?_) (fun hp=>⟨?_,fun eo ψo hr=> ?_⟩)
           ·rw[mA,not_or]at hp
            rw[hother p hp.2,ho1 p hp.1]
           ·simp only[plain,bA]at hp;exact hp.2
           ·rw[q0V]
            exact(hold1 eo ψo hr).put d (t:= .poison) trivial
          exact hK _ _ _ _ _ _ hk (by simpa[dsts]using h1)
        by_cases hbw:b=want2
        ·subst hbw
         rw[if_pos (by simp)]at hq
         refine ih1 _ _ (some (j2,b)) i m1 a e H φ ψ w _ hm1 ⟨c,hj2,hbt,hnot⟩ hq he hH hx (fun e1 H2 φ1 ψ1 a1 w1 hk hl=> ?_)
         obtain⟨q',hq',hk⟩:=oB.1 hk
         simp only[oI,Prod.mk.injEq]at hk
         obtain⟨rfl,rfl⟩:=hk
         exact tail a1 w1 φ1 (hl.old hpl _ _ he) hl.heap hl.ext hl.defers hl.other (hl.old hpl) (fun b cs hb=>(hl.priv b cs hb).1) (fun y _ hy=>z0c hl.env hy hq') (fun hne=>absurd rfl hne)
        ·rw[if_neg (by simpa using hbw)]at hq
         simp only[oI,Prod.mk.injEq]at hq
         obtain⟨rfl,rfl⟩:=hq
         have hoff:offAt a c want2:=fun v hv=>by
          rw[hbt]at hv;cases hv;simp;exact hbw
         refine k1p inner j2 c want2 i m1 [] a e _ hj2 hm1 hskip hoff (fun p hp=>by simp at hp) he fun a1 he1 hk1 hall=> ?_
         exact tail a1 w φ he1 hH hx hk1.defers hk1.other hall (fun b cs hb=>hb.1) (fun y hy=>absurd hy.symm hbw) (fun _=>rfl)
       ·cases hc
      ·cases hc
     ·cases hc
    ·cases hc
   ·cases hc
  ·cases hc
end main
inductive At where
 |op (d:Option Nat) (o:ROp)
 |lbox (n p:Nat) (x:X)
 |lnew (p:Nat) (z:List C)
 |st (hp:Option Nat) (n:Nat) (a x:X)
 |pick (and:Bool) (c:Nat) (keep:X) (d:Nat) (ks:List Nat)
 deriving Inhabited
structure It where
 i:Nat
 g:Gd
 a:At
 deriving Inhabited
def off:T:= .val (.tuple [])
def Env.setO(e:Env):Option Nat->T->Env
 |some d,t=>e.set d t
 |none,_=>e
def Env.killS:List Nat->Env->Env
 | [],e=>e
 |p::ps,e=>Env.killS ps (e.set p .poison)
abbrev St:=Option (Env×Heap)
section
variable(lim:Nat)(call:CallT)
def stepA:At->Env->Heap->St
 | .op d o,e,H=>evalOp lim call e H o fun t H'=>some (e.setO d t,H')
 | .lbox n p x,e,H=>(ev e x).bind fun v=>v.cells.bind fun xs=>if xs.length=n then some (e.set p (.loc xs),H)else none
 | .lnew p z,e,H=>some (e.set p (.loc z),H)
 | .st hp n a x,e,H=>(ev e x).bind fun v=>v.cells.bind fun xs=>if xs.length≠n then none else placeK e a
  (fun p o=>if hp≠some p then none else(locCells e p).bind fun cs=>if o+n<=cs.length then some (e.set p (.loc (splice cs o xs)),H)else none)
  (fun i o=>if hp≠none then none else(H.st lim i o xs).bind fun H'=>some (e,H'))
 | .pick and c keep d ks,e,H=>(evB e (.t c)).bind fun b=>(if b=and then evB e keep else some b).bind fun q=>some (Env.killS ks (e.set d (.val (.c (.bool q)))),H)
def At.dst:At->Option Nat
 | .op d _=>d
 | .lbox _ p _=>some p
 | .lnew p _=>some p
 | .pick _ _ _ d _=>some d
 |_=>none
def guardOf(e:Env)(c:Nat):Option (Option Bool):=
 match e.get c with
 | .val (.c (.bool b))=>some (some b)
 | .val (.tuple [])=>some none
 |_=>none
def stepI(it:It)(e:Env)(H:Heap):St:=
 match it.g with
 |none=>stepA lim call it.a e H
 |some (c,want)=>(guardOf e c).bind fun b=>if b=some want then stepA lim call it.a e H else some (e.setO it.a.dst off,H)
def flat:List It->Env->Heap->St
 | [],e,H=>some (e,H)
 |it::its,e,H=>(stepI lim call it e H).bind fun q=>flat its q.1 q.2
end
def chkSkipF:List Nat->Ops->Bool
 |_, .nil=>true
 |D, .op d _ r=>chkSkipF (d.toList++D) r
 |D, .lbox _ p _ r=>chkSkipF (p::D) r
 |D, .lnew p _ r=>chkSkipF (p::D) r
 |D, .st _ _ _ _ r=>chkSkipF D r
 |D, .logic _ c inner _ d r=>D.contains c&&chkSkipF D inner&&chkSkipF (d::D.filter (fun p=> !(dsts inner).contains p)) r
def row:Gd->Ops->List Nat->Option (List It×List Nat)
 |g, .nil,is=>some ([],is)
 |g, .op d o r,i::is=>(row g r is).map fun q=>(⟨i,g, .op d o⟩::q.1,q.2)
 |g, .lbox n p x r,i::is=>(row g r is).map fun q=>(⟨i,g, .lbox n p x⟩::q.1,q.2)
 |g, .lnew p z r,i::is=>(row g r is).map fun q=>(⟨i,g, .lnew p z⟩::q.1,q.2)
 |g, .st hp n a x r,i::is=>(row g r is).map fun q=>(⟨i,g, .st hp n a x⟩::q.1,q.2)
 |g, .logic and c inner keep d r,is=>
  if plain inner&& !(dsts inner).contains c&& !(dsts inner).contains d&&chkSkipF [] inner then
   match row (some (c,and)) inner is with
   |some (l,i::is)=>(row g r is).map fun q=>(l++⟨i,g, .pick and c keep d (dsts inner)⟩::q.1,q.2)
   |_=>none
  else none
 |_,_,[]=>none
theorem z0Y{lim:Nat}{call:CallT}: ∀{xs ys:List It} {e:Env} {H:Heap},flat lim call (xs++ys) e H=(flat lim call xs e H).bind fun q=>flat lim call ys q.1 q.2
 | [],ys,e,H=>rfl
 |x::xs,ys,e,H=>by
  simp only[List.cons_append,flat,Option.bind_assoc]
  congr 1;funext q;exact z0Y
def Free(e:Env)(S:List Nat):Prop:= ∀p∈S,(∀cs,e.get p≠ .loc cs)/\ ∀s o,e.get s≠ .laddr p o
theorem Free.sub{e:Env}{S S2:List Nat}(h:Free e S)(hs: ∀p∈S2,p∈S):Free e S2:=fun p hp=>h p (hs p hp)
theorem J0q{e:Env}{d p:Nat}{t:T}:Env.get (e.set d t) p=t\/Env.get (e.set d t) p=e.get p:=by
 unfold Env.get
 simp only[lG,List.getElem?_set]
 split
 ·split
  ·exact .inl rfl
  ·rename_i h1 h2;subst h1;right;rw[List.getElem?_eq_none (by omega)]
 ·exact .inr rfl
theorem q0h{e:Env}{d p:Nat}{t:T}(h:p≠d):Env.get (e.set d t) p=e.get p:=by
 unfold Env.get
 simp only[lG,List.getElem?_set_ne (Ne.symm h)]
theorem Free.set{e:Env}{S:List Nat}{d:Nat}{t:T}(h:Free e S)(hl: ∀cs,t= .loc cs->d∉S)(ha: ∀q o,t= .laddr q o->q∉S):Free (e.set d t) S:=by
 intro p hp
 refine⟨fun cs hc=> ?_,fun s o hs=> ?_⟩
 ·by_cases hpd:p=d
  ·subst hpd
   rcases J0q (e:=e) (d:=p) (p:=p) (t:=t)with h1 |h1
   ·rw[h1]at hc;exact hl _ hc hp
   ·rw[h1]at hc;exact(h p hp).1 _ hc
  ·rw[q0h hpd]at hc;exact(h p hp).1 _ hc
 ·rcases J0q (e:=e) (d:=d) (p:=s) (t:=t)with h1 |h1
  ·rw[h1]at hs;exact ha _ _ hs hp
  ·rw[h1]at hs;exact(h p hp).2 _ _ hs
theorem Free.put{e:Env}{S:List Nat}{d:Nat}{t:T}(h:Free e S)(hd:d∈S)(ht: ∀q o,t= .laddr q o->q∉S):e.put d t=e.set d t:=by
 unfold Env.put
 split
 ·rename_i cs hc;exact absurd hc ((h d hd).1 cs)
 ·rcases q0n d t with h1 |⟨_,o,h1⟩
  ·rw[h1]
  ·exact absurd hd (ht d o h1)
theorem Free.purge{e:Env}{S:List Nat}{d:Nat}(h:Free e S)(hd:d∈S):e.map (T.purge d)=e:=by
 refine List.ext_getElem? fun s=> ?_
 rw[List.getElem?_map]
 cases hs:e[s]? with
 |none=>rfl
 |some t=>
  simp only[Option.map_some,oI]
  rcases q0n d t with h1 |⟨_,o,h1⟩
  ·exact h1
  ·exfalso
   refine(h d hd).2 s o ?_
   unfold Env.get;rw[lG,hs,h1];rfl
theorem Free.kill: ∀{S:List Nat} {e:Env},Free e S->Env.kill S e=Env.killS S e
 | [],_,_=>rfl
 |p::ps,e,h=>by
  simp only[Env.kill,Env.killS]
  rw[h.put (by simp) (fun q o hc=>by cases hc)]
  refine Free.kill (Free.set (h.sub fun q hq=>by simp[hq]) (fun cs hc=>by cases hc) (fun q o hc=>by cases hc))
theorem Free.rooted{e:Env}{S:List Nat}{q:Nat}(h:Free e S)(hr:Rooted e q):q∉S:=fun hq=>by
 rcases hr with⟨cs,hc⟩ |⟨s,o,hs⟩
 ·exact(h q hq).1 _ hc
 ·exact(h q hq).2 _ _ hs
theorem Free.killS: ∀{ds:List Nat} {e:Env} {S:List Nat},Free e S->Free (Env.killS ds e) S
 | [],_,_,h=>h
 |d::ds,_,_,h=>Free.killS (ds:=ds) (h.set (fun cs hc=>by cases hc) (fun q o hc=>by cases hc))
def Same(S:List Nat)(e e2:Env):Prop:=e2.length=e.length/\ ∀p,p∉S->e2[p]? =e[p]?
theorem Same.refl(S:List Nat)(e:Env):Same S e e:=⟨rfl,fun _ _=>rfl⟩
theorem Same.trans{S S2:List Nat}{a b c:Env}(h:Same S a b)(k:Same S2 b c):Same (S++S2) a c:=
 ⟨k.1.trans h.1,fun p hp=>by rw[mA,not_or]at hp;rw[k.2 p hp.2,h.2 p hp.1]⟩
theorem Same.set(e:Env)(d:Nat)(t:T):Same [d] e (e.set d t):=⟨by simp,fun p hp=>by simp at hp;rw[List.getElem?_set_ne (Ne.symm hp)]⟩
theorem Same.setO(e:Env)(d:Option Nat)(t:T):Same d.toList e (e.setO d t):=by
 cases d with
 |none=>exact .refl _ _
 |some d=>exact .set e d t
theorem j0S: ∀{S:List Nat} {e:Env} {p:Nat},(Env.killS S e)[p]? =if p∈S/\p<e.length then some .poison else e[p]?
 | [],e,p=>by simp[Env.killS]
 |q::S,e,p=>by
  simp only[Env.killS]
  rw[j0S,List.getElem?_set]
  simp only[List.length_set,mC]
  by_cases h1:p∈S/\p<e.length
  ·simp[h1]
  ·by_cases h2:q=p
   ·subst h2
    by_cases h3:q<e.length
    ·simp[h3]
    ·rw[if_neg h1];simp[h3]
   ·simp only[if_neg h1,if_neg h2]
    rw[if_neg];intro h;exact h1 ⟨h.1.resolve_left (fun e=>h2 e.symm),h.2⟩
theorem Same.killS{S:List Nat}{e e2:Env}(h:Same S e e2):Env.killS S e2=Env.killS S e:=by
 refine List.ext_getElem? fun p=> ?_
 rw[j0S,j0S,h.1]
 by_cases hp:p∈S
 ·by_cases hl:p<e.length
  ·simp[hp,hl]
  ·have h1:e2[p]? =none:=List.getElem?_eq_none (by rw[h.1];omega)
   have h2:e[p]? =none:=List.getElem?_eq_none (by omega)
   simp[hl,h1,h2]
 ·simp[hp,h.2 p hp]
theorem Q0B: ∀{S:List Nat} {e:Env},Same S e (Env.killS S e):=by
 intro S e
 refine⟨?_,fun p hp=>by rw[j0S,if_neg (fun h=>hp h.1)]⟩
 induction S generalizing e with
 |nil=>rfl
 |cons p S ih=>simp only[Env.killS];rw[ih];simp
theorem q1K{S:List Nat}{e:Env}{d:Nat}{t:T}(hd:d∉S):Env.killS S (e.set d t)=(Env.killS S e).set d t:=by
 refine List.ext_getElem? fun p=> ?_
 rw[j0S,List.getElem?_set,List.getElem?_set,j0S,(Q0B (S:=S) (e:=e)).1]
 simp only[List.length_set]
 by_cases h:d=p
 ·subst h;simp[hd]
 ·simp[h]
theorem Same.get{S:List Nat}{e e2:Env}(h:Same S e e2){p:Nat}(hp:p∉S):e2.get p=e.get p:=by
 unfold Env.get;rw[lG,lG,h.2 p hp]
theorem Free.setO{e:Env}{S:List Nat}{d:Option Nat}{t:T}(h:Free e S)(hl: ∀cs,t≠ .loc cs)(ha: ∀q o,t= .laddr q o->q∉S):Free (e.setO d t) S:=by
 cases d with
 |none=>exact h
 |some d=>exact h.set (fun cs hc=>absurd hc (hl cs)) ha
theorem Free.putO{e:Env}{S:List Nat}{d:Option Nat}{t:T}(h:Free e S)(hd: ∀p∈d.toList,p∈S)(ht: ∀q o,t= .laddr q o->q∉S):e.putO d t=e.setO d t:=by
 cases d with
 |none=>rfl
 |some d=>exact h.put (hd d (by simp)) ht
section
variable{lim:Nat}{call:CallT}
theorem q0S{it:It}{its:List It}{e e1:Env}{H H1:Heap}(h:stepI lim call it e H=some (e1,H1)):flat lim call (it::its) e H=flat lim call its e1 H1:=by
 simp only[flat,h,oS]
theorem Z0k{i c:Nat}{want:Bool}{a:At}{e:Env}{H:Heap}{x:Option Bool}(h:guardOf e c=some x)(hx:x≠some want):stepI lim call ⟨i,some (c,want),a⟩ e H=some (e.setO a.dst off,H):=by
 simp only[stepI,h,oS,if_neg hx]
theorem q0W{e e2:Env}{c:Nat}(h:e2.get c=e.get c):guardOf e2 c=guardOf e c:=by unfold guardOf;rw[h]
theorem Z0l{e:Env}{d:Option Nat}{p:Nat}(hp:e.get p=off):Env.get (e.setO d off) p=off:=by
 cases d with
 |none=>exact hp
 |some d=>
  rcases J0q (e:=e) (d:=d) (p:=p) (t:=off)with h |h
  ·exact h
  ·exact h.trans hp
theorem q0K{e:Env}{d:Nat}{t:T}(h:d<e.length):Env.get (e.set d t) d=t:=by
 unfold Env.get;rw[lG,List.getElem?_set_self h];rfl
theorem w0P{e:Env}{d:Option Nat}{t:T}:(e.setO d t).length=e.length:=by cases d<;>simp[Env.setO]
theorem k1q: ∀(o:Ops) (c:Nat) (want:Bool) (D is:List Nat) (its:List It) (is2:List Nat) (e:Env) (H:Heap) (x:Option Bool),
  row (some (c,want)) o is=some (its,is2)->guardOf e c=some x->x≠some want->c∉dsts o->chkSkipF D o=true->(∀p∈D,e.get p=off)->plain o=true->(∀p∈dsts o,p<e.length)->
  ∃e2,flat lim call its e H=some (e2,H)/\Same (dsts o) e e2:=by
 intro o
 induction o with
 |nil=>
  intro c want D is its is2 e H x hr hg hx hc hs hD hp hl
  simp only[row,oI,Prod.mk.injEq]at hr
  rw[<-hr.1]
  exact⟨e,rfl, .refl _ _⟩
 |op d rop r ih=>
  intro c want D is its is2 e H x hr hg hx hc hs hD hp hl
  cases is with
  |nil=>simp[row]at hr
  |cons i is=>
   simp only[row,oM]at hr
   obtain⟨⟨l,is3⟩,hr,he⟩:=hr
   cases he
   simp only[dsts,mA,not_or]at hc hl
   have h1:Same d.toList e (e.setO d off):= .setO e d off
   obtain⟨e2,h2,h3⟩:=ih c want _ is l is3 (e.setO d off) H x hr (by rw[q0W (h1.get hc.1)];exact hg) hx hc.2 hs (fun p hp=>by
    rw[mA]at hp
    rcases hp with hp |hp
    ·cases d with
     |none=>simp at hp
     |some d=>simp at hp;subst hp;exact q0K (hl _ (by simp))
    ·exact Z0l (hD p hp)) hp (fun p hp=>by rw[w0P];exact hl p (.inr hp))
   refine⟨e2, ?_,by simpa[dsts]using h1.trans h3⟩
   rw[q0S (Z0k hg hx)];exact h2
 |lbox n p x r ih=>intro c want D is its is2 e H x hr hg hx hc hs hD hp;simp[plain]at hp
 |lnew p z r ih=>intro c want D is its is2 e H x hr hg hx hc hs hD hp;simp[plain]at hp
 |st hp n b x r ih=>intro c want D is its is2 e H x hr hg hx hc hs hD hp;simp[plain]at hp
 |logic and c2 inner keep d r ih1 ih2=>
  intro c want D is its is2 e H x hr hg hx hc hs hD hp hl
  simp only[row]at hr
  split at hr
  ·rename_i hh
   simp only[bA,bN,List.contains_eq_mem,dN]at hh
   split at hr
   ·rename_i l i is3 hr1
    simp only[oM]at hr
    obtain⟨⟨l2,is4⟩,hr2,he⟩:=hr
    cases he
    simp only[chkSkipF,bA,List.contains_eq_mem,dE]at hs
    simp only[plain,bA]at hp
    simp only[dsts,mA,mC,not_or]at hc hl
    have hoff:guardOf e c2=some none:=by unfold guardOf;rw[hD c2 hs.1.1];rfl
    obtain⟨e1,h1,h2⟩:=ih1 c2 and D is l (i::is3) e H none hr1 hoff (by simp) hh.1.1.2 hs.1.2 hD hp.1 (fun p hp=>hl p (.inl hp))
    have hg1:guardOf e1 c=some x:=by rw[q0W (h2.get hc.1)];exact hg
    have h3:Same (dsts inner++[d]) e (e1.set d off):=h2.trans (.set e1 d off)
    have hd:d∉dsts inner:=hh.1.2
    have hdn:Env.get (e1.set d off) d=off:=q0K (by rw[h2.1];exact hl d (.inr (.inl rfl)))
    obtain⟨e2,h5,h6⟩:=ih2 c want _ is3 l2 _ (e1.set d off) H x hr2 (by
      rw[q0W (h3.get (by simp only[mA,List.mem_singleton,not_or];exact⟨hc.1,hc.2.1⟩))];exact hg) hx hc.2.2 hs.2 (fun p hp=>by
      simp only[mC,List.mem_filter,bN,List.contains_eq_mem,dN]at hp
      rcases hp with rfl |⟨hp,hpn⟩
      ·exact hdn
      ·by_cases hpd:p=d
       ·subst hpd;exact hdn
       ·rw[h3.get (by simp only[mA,List.mem_singleton,not_or];exact⟨hpn,hpd⟩)];exact hD p hp) hp.2
      (fun p hp=>by rw[h3.1];exact hl p (.inr (.inr hp)))
    refine⟨e2, ?_, ?_⟩
    ·rw[z0Y,h1,oS]
     rw[q0S (Z0k hg1 hx)]
     exact h5
    ·have:=h3.trans h6
     refine⟨this.1,fun p hp=>this.2 p ?_⟩
     simp only[dsts,mA,mC,List.not_mem_nil,or_false]at hp⊢
     intro h
     exact hp (by rcases h with(h |h) |h<;>simp[h])
   ·cases hr
  ·cases hr
def GuardOn(g:Gd)(e:Env)(ds:List Nat):Prop:=
 match g with
 |none=>True
 |some (c,want)=>guardOf e c=some (some want)/\c∉ds
theorem z0H{i:Nat}{g:Gd}{ds:List Nat}{a:At}{e:Env}{H:Heap}(h:GuardOn g e ds):stepI lim call ⟨i,g,a⟩ e H=stepA lim call a e H:=by
 cases g with
 |none=>rfl
 |some x=>
  obtain⟨c,want⟩:=x
  simp only[stepI,h.1,oS,iT]
theorem GuardOn.next{g:Gd}{e e2:Env}{S xs ys:List Nat}(h:GuardOn g e (xs++ys))(hs:Same S e e2)(hS: ∀p∈S,p∈xs):GuardOn g e2 ys:=by
 cases g with
 |none=>trivial
 |some x=>
  obtain⟨c,want⟩:=x
  obtain⟨h1,h2⟩:=h
  rw[mA,not_or]at h2
  exact⟨by rw[q0W (hs.get fun hc=>h2.1 (hS c hc))];exact h1,h2.2⟩
theorem k0u{xs ys:List Nat}(h:(xs++ys).Nodup):ys.Nodup/\ ∀p∈ys,p∉xs:=by
 rw[List.nodup_append]at h
 exact⟨h.2.1,fun p hp hx=>h.2.2 p hx p hp rfl⟩
theorem Q1P: ∀(o:Ops) {R:Type} (K:Env->Heap->Option R) (r:R) (g:Gd) (is is2:List Nat) (its:List It) (e:Env) (H:Heap),
  row g o is=some (its,is2)->GuardOn g e (dsts o)->(dsts o).Nodup->Free e (dsts o)->(∀p∈dsts o,p<e.length)->runOps lim call o e H K=some r->
  ∃e2 H2,K e2 H2=some r/\flat lim call its e H=some (e2,H2)/\(plain o=true->Same (dsts o) e e2):=by
 intro o
 induction o with
 |nil=>
  intro R K r g is is2 its e H hr hg hnd hf hl h
  simp only[row,oI,Prod.mk.injEq]at hr
  rw[<-hr.1]
  exact⟨e,H,h,rfl,fun _=> .refl _ _⟩
 |op d rop rs ih=>
  intro R K r g is is2 its e H hr hg hnd hf hl h
  cases is with
  |nil=>simp[row]at hr
  |cons i is=>
   simp only[row,oM]at hr
   obtain⟨⟨l,is3⟩,hr,he⟩:=hr
   cases he
   simp only[dsts]at hg hnd hf hl
   simp only[runOps]at h
   obtain⟨t,H1,h,hn⟩:=q0r h
   have hroot: ∀q o,t= .laddr q o->q∉d.toList++dsts rs:=fun q o ht=>hf.rooted (hn.root q o ht)
   rw[hf.putO (fun p hp=>by simp[hp]) hroot]at h
   obtain⟨hnd2,hdis⟩:=k0u hnd
   have h1:Same d.toList e (e.setO d t):= .setO e d t
   obtain⟨e2,H2,h2,h3,h4⟩:=ih K r g is is3 l _ H1 hr (hg.next h1 fun p hp=>hp) hnd2 ((hf.setO hn.noloc hroot).sub fun p hp=>by simp[hp]) (fun p hp=>by rw[w0P];exact hl p (by simp[hp])) h
   refine⟨e2,H2,h2, ?_,fun hp=>by simpa[dsts]using h1.trans (h4 hp)⟩
   rw[q0S (e1:=e.setO d t) (H1:=H1)]
   ·exact h3
   ·rw[z0H hg];simp only[stepA];rw[hn.all]
 |lbox n p x rs ih=>
  intro R K r g is is2 its e H hr hg hnd hf hl h
  cases is with
  |nil=>simp[row]at hr
  |cons i is=>
   simp only[row,oM]at hr
   obtain⟨⟨l,is3⟩,hr,he⟩:=hr
   cases he
   simp only[dsts]at hg hnd hf hl
   simp only[runOps]at h
   obtain⟨v,hv,h⟩:=oB.1 h
   obtain⟨xs,hxs,h⟩:=oB.1 h
   split at h
   ·rename_i hlen
    rw[hf.purge (by simp)]at h
    obtain⟨hnd2,hdis⟩:=k0u (xs:=[p]) hnd
    have h1:Same [p] e (e.set p (.loc xs)):= .set e p _
    obtain⟨e2,H2,h2,h3,h4⟩:=ih K r g is is3 l _ H hr (hg.next (xs:=[p]) h1 fun p hp=>hp) hnd2 ((hf.sub fun q hq=>by simp[hq]).set (fun cs _ hp=>hdis p hp (by simp)) (fun q o ht=>by cases ht)) (fun q hq=>by simp;exact hl q (by simp[hq])) h
    refine⟨e2,H2,h2, ?_,fun hp=>by simp[plain]at hp⟩
    rw[q0S (e1:=e.set p (.loc xs)) (H1:=H)]
    ·exact h3
    ·rw[z0H hg];simp only[stepA,hv,hxs,oS,if_pos hlen]
   ·cases h
 |lnew p z rs ih=>
  intro R K r g is is2 its e H hr hg hnd hf hl h
  cases is with
  |nil=>simp[row]at hr
  |cons i is=>
   simp only[row,oM]at hr
   obtain⟨⟨l,is3⟩,hr,he⟩:=hr
   cases he
   simp only[dsts]at hg hnd hf hl
   simp only[runOps]at h
   rw[hf.purge (by simp)]at h
   obtain⟨hnd2,hdis⟩:=k0u (xs:=[p]) hnd
   have h1:Same [p] e (e.set p (.loc z)):= .set e p _
   obtain⟨e2,H2,h2,h3,h4⟩:=ih K r g is is3 l _ H hr (hg.next (xs:=[p]) h1 fun p hp=>hp) hnd2 ((hf.sub fun q hq=>by simp[hq]).set (fun cs _ hp=>hdis p hp (by simp)) (fun q o ht=>by cases ht)) (fun q hq=>by simp;exact hl q (by simp[hq])) h
   refine⟨e2,H2,h2, ?_,fun hp=>by simp[plain]at hp⟩
   rw[q0S (e1:=e.set p (.loc z)) (H1:=H)]
   ·exact h3
   ·rw[z0H hg];rfl
 |st hp n b x rs ih=>
  intro R K r g is is2 its e H hr hg hnd hf hl h
  cases is with
  |nil=>simp[row]at hr
  |cons i is=>
   simp only[row,oM]at hr
   obtain⟨⟨l,is3⟩,hr,he⟩:=hr
   cases he
   simp only[dsts]at hg hnd hf hl
   simp only[runOps]at h
   obtain⟨v,hv,h⟩:=oB.1 h
   obtain⟨xs,hxs,h⟩:=oB.1 h
   split at h
   ·cases h
   ·rename_i hlen
    rcases q0o h with⟨p,o,h,hroot,hn⟩ |⟨j,o,h,hn⟩
    ·split at h
     ·cases h
     rename_i hhp
     obtain⟨cs,hcs,h⟩:=oB.1 h
     split at h
     ·rename_i hle
      have hp:=hf.rooted hroot
      have hg2:GuardOn g (e.set p (.loc (splice cs o xs))) (dsts rs):=by
       cases g with
       |none=>trivial
       |some y=>
        obtain⟨c,want⟩:=y
        refine⟨?_,hg.2⟩
        have hcp:c≠p:=by
         intro hcp;subst hcp
         have h1:=hg.1
         unfold guardOf at h1
         unfold locCells at hcs
         split at hcs
         ·rename_i hc;rw[hc]at h1;cases h1
         ·cases hcs
        rw[q0W (q0h hcp)];exact hg.1
      obtain⟨e2,H2,h2,h3,h4⟩:=ih K r g is is3 l _ H hr hg2 hnd (hf.set (fun cs _=>hp) (fun q o ht=>by cases ht)) (fun q hq=>by simp;exact hl q hq) h
      refine⟨e2,H2,h2, ?_,fun hp=>by simp[plain]at hp⟩
      rw[q0S (e1:=e.set p (.loc (splice cs o xs))) (H1:=H)]
      ·exact h3
      ·rw[z0H hg];simp only[stepA,hv,hxs,oS,if_neg hlen];rw[hn,if_neg hhp,hcs,oS,if_pos hle]
     ·cases h
    ·split at h
     ·cases h
     rename_i hhp
     obtain⟨H1,hst,h⟩:=oB.1 h
     obtain⟨e2,H2,h2,h3,h4⟩:=ih K r g is is3 l _ H1 hr hg hnd hf hl h
     refine⟨e2,H2,h2, ?_,fun hp=>by simp[plain]at hp⟩
     rw[q0S (e1:=e) (H1:=H1)]
     ·exact h3
     ·rw[z0H hg];simp only[stepA,hv,hxs,oS,if_neg hlen];rw[hn,if_neg hhp,hst,oS]
 |logic and c inner keep d rs ih1 ih2=>
  intro R K r g is is2 its e H hr hg hnd hf hl h
  simp only[row]at hr
  split at hr
  ·rename_i hh
   simp only[bA,bN,List.contains_eq_mem,dN]at hh
   obtain⟨⟨⟨hpl,hci⟩,hdi⟩,hsk⟩:=hh
   split at hr
   ·rename_i l i is3 hr1
    simp only[oM]at hr
    obtain⟨⟨l2,is4⟩,hr2,he⟩:=hr
    cases he
    simp only[dsts]at hg hnd hf hl
    simp only[runOps]at h
    obtain⟨b,hb,h⟩:=oB.1 h
    obtain⟨⟨q,H1⟩,hq,h⟩:=oB.1 h
    have hfi:Free e (dsts inner):=hf.sub fun p hp=>by simp[hp]
    have hli: ∀p∈dsts inner,p<e.length:=fun p hp=>hl p (by simp[hp])
    have hgc:guardOf e c=some (some b):=by
     unfold evB evC ev at hb
     unfold guardOf
     simp only at hb
     split at hb
     ·rename_i v hv
      rw[hv]
      simp only[oS]at hb
      cases v with
      |c y=>cases y<;>simp[V.asC,C.asB]at hb;subst hb;rfl
      |agg cs=>simp[V.asC]at hb
      |tuple vs=>simp[V.asC]at hb
     ·simp at hb
    have hnd1:(dsts inner).Nodup:=(List.nodup_append.1 hnd).1
    have key: ∃e1,flat lim call l e H=some (e1,H1)/\Same (dsts inner) e e1/\(if b=and then evB e1 keep else some b)=some q:=by
     by_cases hba:b=and
     ·subst hba
      rw[if_pos rfl]at hq
      obtain⟨e1,H2,h2,h3,h4⟩:=ih1 _ _ (some (c,b)) is (i::is3) l e H hr1 ⟨hgc,hci⟩ hnd1 hfi hli hq
      obtain⟨q',hq',h2⟩:=oB.1 h2
      cases h2
      exact⟨e1,h3,h4 hpl,by rw[if_pos rfl];exact hq'⟩
     ·rw[if_neg hba]at hq
      cases hq
      obtain⟨e1,h1,h2⟩:=k1q (lim:=lim) (call:=call) inner c and [] is l (i::is3) e H (some b) hr1 hgc (by simpa using hba) hci hsk (by simp) hpl hli
      exact⟨e1,h1,h2,by rw[if_neg hba]⟩
    obtain⟨e1,h1,h2,h3⟩:=key
    have hce:evB e1 (.t c)=some b:=by
     have:e1.get c=e.get c:=h2.get hci
     unfold evB evC ev at hb⊢
     simp only[this];exact hb
    have henv:Env.killS (dsts inner) (e1.set d (.val (.c (.bool q))))=(Env.kill (dsts inner) e).put d (.val (.c (.bool q))):=by
     rw[q1K hdi,h2.killS,hfi.kill]
     refine((Free.killS hf).put (S:=dsts inner++d::dsts rs) (by simp) (fun q o ht=>by cases ht)).symm
    rw[<-henv]at h
    have h5:Same (dsts inner++[d]++dsts inner) e (Env.killS (dsts inner) (e1.set d (.val (.c (.bool q))))):=(h2.trans (.set e1 d _)).trans Q0B
    have hnd3:=k0u (xs:=dsts inner++[d]) (ys:=dsts rs) (by simpa using hnd)
    have hsub: ∀p∈dsts inner++[d]++dsts inner,p∈dsts inner++[d]:=fun p hp=>by
     simp only[mA,List.mem_singleton]at hp⊢;rcases hp with(h |h) |h<;>simp[h]
    obtain⟨e2,H2,h6,h7,h8⟩:=ih2 K r g is3 is4 l2 _ H1 hr2 (GuardOn.next (xs:=dsts inner++[d]) (by simpa using hg) h5 hsub) hnd3.1
     (by
      rw[henv,hfi.kill,(Free.killS hf).put (S:=dsts inner++d::dsts rs) (by simp) (fun q o ht=>by cases ht)]
      exact Free.set (Free.killS (hf.sub fun p hp=>by simp[hp])) (fun cs ht=>by cases ht) (fun q o ht=>by cases ht))
     (fun p hp=>by rw[h5.1];exact hl p (by simp[hp])) h
    refine⟨e2,H2,h6, ?_,fun hp=> ?_⟩
    ·rw[z0Y,h1,oS]
     rw[q0S (e1:=Env.killS (dsts inner) (e1.set d (.val (.c (.bool q))))) (H1:=H1)]
     ·exact h7
     ·have hg1:GuardOn g e1 (d::dsts rs):=hg.next h2 fun p hp=>hp
      rw[z0H hg1];simp only[stepA,hce,oS,h3]
    ·simp only[plain,bA]at hp
     have:=h5.trans (h8 hp.2)
     refine⟨this.1,fun p hp=>this.2 p ?_⟩
     simp only[dsts,mA,mC,List.not_mem_nil,or_false]at hp⊢
     intro h
     exact hp (by rcases h with((h |h) |h) |h<;>simp[h])
   ·cases hr
  ·cases hr
end
mutual
theorem k0v: ∀x:C,eqC x x=true
 | .junk=>rfl
 | .bool a=>by simp[eqC]
 | .int k a=>by simp[eqC]
 | .str a=>by simp[eqC]
 | .nilPtr=>rfl
 | .ptr i o=>by simp[eqC]
 | .nilSlice=>rfl
 | .slice i o n=>by simp[eqC]
 | .nilMap=>rfl
 | .map i=>by simp[eqC]
 | .func f a c=>by simp[eqC,z0z a,z0z c]
 | .nilFunc=>rfl
 | .iface t a cs=>by simp[eqC,z0z cs]
 | .nilIface=>rfl
theorem z0z: ∀xs:List C,eqCs xs xs=true
 | []=>rfl
 |x::xs=>by simp[eqCs,k0v x,z0z xs]
end
mutual
theorem w1w: ∀{x y:C},eqC x y=true->x=y
 | .func f a c,y,h=>by
  cases y<;>simp[eqC]at h
  obtain⟨⟨h1,h2⟩,h3⟩:=h
  rw[h1,w0Q h2,w0Q h3]
 | .iface t a cs,y,h=>by
  cases y<;>simp[eqC]at h
  obtain⟨⟨h1,h2⟩,h3⟩:=h
  rw[h1,h2,w0Q h3]
 | .junk,y,h=>by cases y<;>simp[eqC]at h;rfl
 | .bool a,y,h=>by cases y<;>simp[eqC]at h;rw[h]
 | .int k a,y,h=>by cases y<;>simp[eqC]at h;rw[h.1,h.2]
 | .str a,y,h=>by cases y<;>simp[eqC]at h;rw[h]
 | .nilPtr,y,h=>by cases y<;>simp[eqC]at h;rfl
 | .ptr i o,y,h=>by cases y<;>simp[eqC]at h;rw[h.1,h.2]
 | .nilSlice,y,h=>by cases y<;>simp[eqC]at h;rfl
 | .slice i o n,y,h=>by cases y<;>simp[eqC]at h;rw[h.1.1,h.1.2,h.2]
 | .nilMap,y,h=>by cases y<;>simp[eqC]at h;rfl
 | .map i,y,h=>by cases y<;>simp[eqC]at h;rw[h]
 | .nilFunc,y,h=>by cases y<;>simp[eqC]at h;rfl
 | .nilIface,y,h=>by cases y<;>simp[eqC]at h;rfl
theorem w0Q: ∀{xs ys:List C},eqCs xs ys=true->xs=ys
 | [],ys,h=>by cases ys<;>simp[eqCs]at h;rfl
 |x::xs,ys,h=>by
  cases ys with
  |nil=>simp[eqCs]at h
  |cons y ys=>
   simp only[eqCs,bA]at h
   rw[w1w h.1,w0Q h.2]
end
mutual
theorem J0r: ∀x:V,eqV x x=true
 | .c x=>by simp[eqV,k0v x]
 | .agg a=>by simp[eqV,z0z a]
 | .tuple a=>by simp[eqV,Z0m a]
theorem Z0m: ∀xs:List V,eqVs xs xs=true
 | []=>rfl
 |x::xs=>by simp[eqVs,J0r x,Z0m xs]
end
mutual
theorem q1L: ∀{x y:V},eqV x y=true->x=y
 | .c x,y,h=>by cases y<;>simp[eqV]at h;rw[w1w h]
 | .agg a,y,h=>by cases y<;>simp[eqV]at h;rw[w0Q h]
 | .tuple a,y,h=>by cases y<;>simp[eqV]at h;rw[q1M h]
theorem q1M: ∀{xs ys:List V},eqVs xs ys=true->xs=ys
 | [],ys,h=>by cases ys<;>simp[eqVs]at h;rfl
 |x::xs,ys,h=>by
  cases ys with
  |nil=>simp[eqVs]at h
  |cons y ys=>
   simp only[eqVs,bA]at h
   rw[q1L h.1,q1M h.2]
end
def At.reads:At->List Nat
 | .op _ o=>o.slots
 | .lbox _ _ x=>x.slots
 | .lnew _ _=>[]
 | .st _ _ a x=>a.slots++x.slots
 | .pick _ c keep _ _=>c::keep.slots
def At.writes:At->List Nat
 | .op d _=>d.toList
 | .lbox _ p _=>[p]
 | .lnew p _=>[p]
 | .pick _ _ _ d ks=>d::ks
 | .st _ _ _ _=>[]
def It.reads(it:It):List Nat:=(match it.g with
 |some (c,_)=>[c]
 |none=>[])++it.a.reads
def At.neutral:At->Bool
 | .op _ o=>o.neutral
 | .lbox _ _ _ | .lnew _ _ | .pick _ _ _ _ _=>true
 |_=>false
def At.quiet:At->Bool
 | .op _ o=>o.quiet
 | .st _ _ _ _=>false
 |_=>true
def At.tame:At->Bool
 | .st hp _ _ _=>hp.isNone
 |_=>true
def Env.sets:List (Nat×T)->Env->Env
 | [],e=>e
 |x::xs,e=>Env.sets xs (e.set x.1 x.2)
theorem w0R: ∀{f:List (Nat×T)} {e:Env},(Env.sets f e).length=e.length
 | [],e=>rfl
 |x::xs,e=>by simp only[Env.sets];rw[w0R];simp
theorem J0s: ∀{f:List (Nat×T)} {e:Env} {p:Nat},p∉f.map (·.1)->(Env.sets f e)[p]? =e[p]?
 | [],e,p,_=>rfl
 |x::xs,e,p,h=>by
  simp only[List.map_cons,mC,not_or]at h
  simp only[Env.sets];rw[J0s h.2,List.getElem?_set_ne (Ne.symm h.1)]
theorem X0c{f:List (Nat×T)}{e:Env}{d:Nat}{t:T}(h:d∉f.map (·.1)):Env.sets f (e.set d t)=(Env.sets f e).set d t:=by
 induction f generalizing e with
 |nil=>rfl
 |cons x xs ih=>
  simp only[List.map_cons,mC,not_or]at h
  simp only[Env.sets]
  rw[List.set_comm _ _ h.1,ih h.2]
theorem q1N{f g:List (Nat×T)}{e:Env}(h: ∀p∈g.map (·.1),p∉f.map (·.1)):Env.sets g (Env.sets f e)=Env.sets f (Env.sets g e):=by
 induction g generalizing e with
 |nil=>rfl
 |cons x xs ih=>
  simp only[List.map_cons,mC,forall_eq_or_imp]at h
  simp only[Env.sets]
  rw[<-X0c h.1,ih h.2]
theorem Z0n{f:List (Nat×T)}{e:Env}{p:Nat}(hp:p∉f.map (·.1)):Env.get (Env.sets f e) p=e.get p:=by
 unfold Env.get;rw[lG,lG,J0s hp]
theorem k0T: ∀(ds:List Nat) (e:Env),Env.killS ds e=Env.sets (ds.map fun p=>(p,T.poison)) e
 | [],_=>rfl
 |d::ds,e=>by simp only[Env.killS,List.map_cons,Env.sets];exact k0T ds _
theorem j0T(d:Option Nat)(t:T)(e:Env):e.setO d t=Env.sets (d.toList.map fun p=>(p,t)) e:=by cases d<;>rfl
theorem Free.sets: ∀{f:List (Nat×T)} {e:Env} {S:List Nat},Free e S->(∀x∈f,(∀cs,x.2= .loc cs->x.1∉S)/\ ∀q o,x.2= .laddr q o->q∉S)->Free (Env.sets f e) S
 | [],_,_,h,_=>h
 |x::xs,e,S,h,hf=>by
  simp only[Env.sets]
  exact Free.sets (h.set (hf x (by simp)).1 (hf x (by simp)).2) fun y hy=>hf y (by simp[hy])
theorem z0I{f:List (Nat×T)}{e:Env}{S W:List Nat}(hf:Free e W)(hw: ∀p∈f.map (·.1),p∈W)(hd: ∀p∈S,p∉f.map (·.1)):Agree S e (Env.sets f e):=by
 intro p hp
 refine⟨Z0n (hd p hp),fun q o hq=>Z0n fun hqf=> ?_⟩
 exact(hf q (hw q hqf)).2 _ _ hq
theorem Agree.symm{S:List Nat}{e e2:Env}(h:Agree S e e2):Agree S e2 e:=fun p hp=>by
 obtain⟨h1,h2⟩:=h p hp
 exact⟨h1.symm,fun q o hq=>(h2 q o (h1.symm.trans hq)).symm⟩
section
variable{lim:Nat}{call:CallT}
structure Does (lim:Nat) (call:CallT) (it:It) (e:Env) (H:Heap) (f:List (Nat×T)) (H2:Heap):Prop where
 slots: ∀p,p∈f.map (·.1)->p∈it.a.writes
 same: ∀e',Agree it.reads e e'->stepI lim call it e' H=some (Env.sets f e',H2)
 neutral:it.a.neutral=true-> ∀e' H',Agree it.reads e e'->stepI lim call it e' H'=some (Env.sets f e',H')
 quiet:it.a.quiet=true->H2=H
 locs: ∀x∈f,(∀cs,x.2= .loc cs-> ∃n y z,it.a= .lbox n x.1 y\/it.a= .lnew x.1 z)/\ ∀q o,x.2= .laddr q o->Rooted e q
structure DoesA (lim:Nat) (call:CallT) (a:At) (e:Env) (H:Heap) (f:List (Nat×T)) (H2:Heap):Prop where
 slots: ∀p,p∈f.map (·.1)->p∈a.writes
 same: ∀e',Agree a.reads e e'->stepA lim call a e' H=some (Env.sets f e',H2)
 neutral:a.neutral=true-> ∀e' H',Agree a.reads e e'->stepA lim call a e' H'=some (Env.sets f e',H')
 quiet:a.quiet=true->H2=H
 locs: ∀x∈f,(∀cs,x.2= .loc cs-> ∃n y z,a= .lbox n x.1 y\/a= .lnew x.1 z)/\ ∀q o,x.2= .laddr q o->Rooted e q
theorem Q0C{a:At}{e e2:Env}{H H2:Heap}(ht:a.tame=true)(h:stepA lim call a e H=some (e2,H2)): ∃f,e2=Env.sets f e/\DoesA lim call a e H f H2:=by
 cases a with
 |op d o=>
  simp only[stepA]at h
  obtain⟨t,H1,h,hn⟩:=q0r h
  cases h
  refine⟨d.toList.map fun p=>(p,t),j0T d t e, ?_,fun e' ha=> ?_,fun hne e' H' ha=> ?_,hn.quiet,fun x hx=> ?_⟩
  ·intro p hp;simp only[List.map_map,List.mem_map,Function.comp]at hp;obtain⟨q,hq,rfl⟩:=hp;exact hq
  ·simp only[stepA];rw[q0F ha,hn.all,j0T]
  ·simp only[stepA];rw[q0F ha,hn.neutral hne,j0T]
  ·obtain⟨q,hq,rfl⟩:=List.mem_map.1 hx
   exact⟨fun cs hc=>absurd hc (hn.noloc cs),fun q o hq=>hn.root q o hq⟩
 |lbox n p x=>
  simp only[stepA]at h
  obtain⟨v,hv,h⟩:=oB.1 h
  obtain⟨xs,hxs,h⟩:=oB.1 h
  split at h
  ·rename_i hl
   cases h
   refine⟨[(p, .loc xs)],rfl,by simp[At.writes],fun e' ha=> ?_,fun _ e' H' ha=> ?_,fun _=>rfl,fun y hy=> ?_⟩
   ·simp only[stepA];rw[q0O ha,hv,oS,hxs,oS,if_pos hl];rfl
   ·simp only[stepA];rw[q0O ha,hv,oS,hxs,oS,if_pos hl];rfl
   ·simp only[List.mem_singleton]at hy;subst hy
    exact⟨fun cs _=>⟨n,x,[], .inl rfl⟩,fun q o hq=>by cases hq⟩
  ·cases h
 |lnew p z=>
  simp only[stepA]at h;cases h
  refine⟨[(p, .loc z)],rfl,by simp[At.writes],fun e' ha=>rfl,fun _ e' H' ha=>rfl,fun _=>rfl,fun y hy=> ?_⟩
  simp only[List.mem_singleton]at hy;subst hy
  exact⟨fun cs _=>⟨0, .c (.tuple []),z, .inr rfl⟩,fun q o hq=>by cases hq⟩
 |st hp n b x=>
  simp only[At.tame,Option.isNone_iff_eq_none]at ht;subst ht
  simp only[stepA]at h
  obtain⟨v,hv,h⟩:=oB.1 h
  obtain⟨xs,hxs,h⟩:=oB.1 h
  split at h
  ·cases h
  ·rename_i hl
   rcases q0o h with⟨p,o,h,hroot,hn⟩ |⟨j,o,h,hn⟩
   ·simp at h
   ·simp only[ne_eq,not_true_eq_false,iF]at h
    obtain⟨H1,hst,h⟩:=oB.1 h
    cases h
    refine⟨[],rfl,by simp,fun e' ha=> ?_,fun hne=>by simp[At.neutral]at hne,fun hq=>by simp[At.quiet]at hq,by simp⟩
    simp only[stepA]
    rw[q0O ha.right,hv,oS,hxs,oS,if_neg hl]
    simp only[ne_eq,not_true_eq_false,iF]
    rw[q0z (Kl:=fun _ _=>none) (Ko:=fun i o=>(H.st lim i o xs).bind fun H'=>some (e',H')) (Agree.left ha) (fun p o _=>by simp),hn,hst]
    rfl
 |pick and c keep d ks=>
  simp only[stepA]at h
  obtain⟨b,hb,h⟩:=oB.1 h
  obtain⟨q,hq,h⟩:=oB.1 h
  cases h
  have key: ∀e' H',Agree (c::keep.slots) e e'->stepA lim call (.pick and c keep d ks) e' H'=some (Env.sets ((d, .val (.c (.bool q)))::ks.map fun p=>(p,T.poison)) e',H'):=by
   intro e' H' ha
   have h1:Agree [c] e e':=Agree.left (S2:=keep.slots) ha
   have h2:Agree keep.slots e e':=Agree.right (S:=[c]) ha
   simp only[stepA]
   rw[z0u (x:= .t c) h1,hb,oS,z0u h2,hq,oS,k0T]
   rfl
  refine⟨(d, .val (.c (.bool q)))::ks.map fun p=>(p,T.poison),by rw[k0T];rfl, ?_,fun e' ha=>key e' H ha,fun _ e' H' ha=>key e' H' ha,fun _=>rfl,fun y hy=> ?_⟩
  ·intro p hp
   simp only[List.map_cons,List.map_map,mC,List.mem_map,Function.comp]at hp
   simp only[At.writes,mC]
   rcases hp with rfl |⟨q,hq,rfl⟩
   ·exact .inl rfl
   ·exact .inr hq
  ·rw[mC,List.mem_map]at hy
   rcases hy with rfl |⟨q,hq,rfl⟩
   ·exact⟨fun cs hc=>(by cases hc),fun q o hq=>(by cases hq)⟩
   ·exact⟨fun cs hc=>(by cases hc),fun q o hq=>(by cases hq)⟩
theorem z0J{a:At}{p:Nat}(h:p∈a.dst.toList):p∈a.writes:=by
 cases a<;>simp[At.dst,At.writes]at h⊢ <;>first |exact h |exact .inl h
theorem j0q{a:At}(h:a.neutral=true):a.quiet=true:=by
 cases a<;>simp[At.neutral,At.quiet]at h⊢
 unfold ROp.quiet;split<;>first |rfl |exact h
theorem j0k{it:It}{e e2:Env}{H H2:Heap}(ht:it.a.tame=true)(h:stepI lim call it e H=some (e2,H2)): ∃f,e2=Env.sets f e/\Does lim call it e H f H2:=by
 obtain⟨i,g,a⟩:=it
 simp only at ht
 cases g with
 |none=>
  obtain⟨f,h1,h2⟩:=Q0C ht h
  exact⟨f,h1,h2.slots,fun e' ha=>h2.same e' ha,fun hn e' H' ha=>h2.neutral hn e' H' ha,h2.quiet,h2.locs⟩
 |some y=>
  obtain⟨c,want⟩:=y
  simp only[stepI]at h
  obtain⟨b,hb,h⟩:=oB.1 h
  have hg: ∀e',Agree (It.reads ⟨i,some (c,want),a⟩) e e'->guardOf e' c=some b:=fun e' ha=>by
   rw[q0W (ha c (by simp[It.reads])).1];exact hb
  have hr: ∀e',Agree (It.reads ⟨i,some (c,want),a⟩) e e'->Agree a.reads e e':=fun e' ha=>Agree.right (S:=[c]) ha
  split at h
  ·rename_i hw
   obtain⟨f,h1,h2⟩:=Q0C ht h
   refine⟨f,h1,h2.slots,fun e' ha=> ?_,fun hn e' H' ha=> ?_,h2.quiet,h2.locs⟩
   ·simp only[stepI,hg e' ha,oS,if_pos hw];exact h2.same e' (hr e' ha)
   ·simp only[stepI,hg e' ha,oS,if_pos hw];exact h2.neutral hn e' H' (hr e' ha)
  ·rename_i hw
   cases h
   refine⟨a.dst.toList.map fun p=>(p,off),j0T _ _ _,fun p hp=> ?_,fun e' ha=> ?_,fun hn e' H' ha=> ?_,fun _=>rfl,fun x hx=> ?_⟩
   ·simp only[List.map_map,List.mem_map,Function.comp]at hp;obtain⟨q,hq,rfl⟩:=hp;exact z0J hq
   ·simp only[stepI,hg e' ha,oS,if_neg hw,j0T]
   ·simp only[stepI,hg e' ha,oS,if_neg hw,j0T]
   ·obtain⟨q,hq,rfl⟩:=List.mem_map.1 hx
    exact⟨fun cs hc=>(by cases hc),fun q o hq=>(by cases hq)⟩
def swapOK(x y:It):Bool:=
 x.a.tame&&y.a.tame&&x.a.writes.all (fun p=> !y.reads.contains p&& !y.a.writes.contains p)&&y.a.writes.all (fun p=> !x.reads.contains p)&&
 (x.a.neutral||y.a.neutral||(x.a.quiet&&y.a.quiet))
theorem X1g{x y:It}{e e1 e2:Env}{H H1 H2:Heap}{W:List Nat}(hs:swapOK x y=true)(hf:Free e W)(hx: ∀p∈x.a.writes,p∈W)(hy: ∀p∈y.a.writes,p∈W)
  (h1:stepI lim call x e H=some (e1,H1)) (h2:stepI lim call y e1 H1=some (e2,H2)): ∃e3 H3,stepI lim call y e H=some (e3,H3)/\stepI lim call x e3 H3=some (e2,H2):=by
 simp only[swapOK,bA,List.all_eq_true,bN,List.contains_eq_mem,dN,Bool.or_eq_true]at hs
 obtain⟨⟨⟨⟨ht1,ht2⟩,hd1⟩,hd2⟩,hcl⟩:=hs
 obtain⟨f,rfl,hfx⟩:=j0k ht1 h1
 obtain⟨g,rfl,hfy⟩:=j0k ht2 h2
 have a1:Agree y.reads e (Env.sets f e):=z0I hf (fun p hp=>hx p (hfx.slots p hp)) (fun p hp hpf=>(hd1 p (hfx.slots p hpf)).1 hp)
 have a2:Agree x.reads e (Env.sets g e):=z0I hf (fun p hp=>hy p (hfy.slots p hp)) (fun p hp hpf=>hd2 p (hfy.slots p hpf) hp)
 have hc:Env.sets f (Env.sets g e)=Env.sets g (Env.sets f e):=(q1N fun p hp hpf=>(hd1 p (hfx.slots p hpf)).2 (hfy.slots p hp)).symm
 rcases hcl with(hn |hn) |⟨hq1,hq2⟩
 ·have hH:=hfx.quiet (j0q hn);subst hH
  exact⟨Env.sets g e,H2,hfy.same e a1.symm,by rw[<-hc];exact hfx.neutral hn _ _ a2⟩
 ·have hH:=hfy.quiet (j0q hn);subst hH
  exact⟨Env.sets g e,H,hfy.neutral hn _ _ a1.symm,by rw[<-hc];exact hfx.same _ a2⟩
 ·have hH:=hfx.quiet hq1;subst hH
  have hH2:=hfy.quiet hq2;subst hH2
  exact⟨Env.sets g e,H2,hfy.same e a1.symm,by rw[<-hc];exact hfx.same _ a2⟩
def Vals(e:Env)(S:List Nat):Prop:= ∀p∈S,∃u,e.get p= .val u
theorem Vals.nil(e:Env):Vals e []:=fun p hp=>by cases hp
theorem Vals.app{e:Env}{S S2:List Nat}(h:Vals e S)(k:Vals e S2):Vals e (S++S2):=fun p hp=>(mA.1 hp).elim (h p) (k p)
theorem j0N{e:Env}{x:X}{v:V}(h:ev e x=some v):Vals e x.slots:=by
 cases x with
 |t p=>
  intro q hq
  simp only[X.slots,List.mem_singleton]at hq;subst hq
  simp only[ev]at h
  split at h
  ·rename_i u hu;exact⟨u,hu⟩
  ·cases h
 |c v=>exact .nil e
 |f g=>exact .nil e
theorem q0y{e:Env}{x:X}{v:C}(h:evC e x=some v):Vals e x.slots:=by
 obtain⟨u,hu,_⟩:=oB.1 h;exact j0N hu
theorem w0u{e:Env}{k:IntKind}{x:X}{v:Int}(h:evI k e x=some v):Vals e x.slots:=by
 obtain⟨u,hu,_⟩:=oB.1 h;exact q0y hu
theorem J0t{e:Env}{x:X}{v:Bool}(h:evB e x=some v):Vals e x.slots:=by
 obtain⟨u,hu,_⟩:=oB.1 h;exact q0y hu
theorem J0u{e:Env}: ∀{xs:List X} {vs:List V},evs e xs=some vs->Vals e (Xs.slots xs)
 | [],_,_=> .nil e
 |x::xs,vs,h=>by
  simp only[evs]at h
  obtain⟨u,hu,h⟩:=oB.1 h
  obtain⟨us,hus,h⟩:=oB.1 h
  exact(j0N hu).app (J0u hus)
theorem Z0o{e:Env}: ∀{xs:List X} {vs:List C},evCs e xs=some vs->Vals e (Xs.slots xs)
 | [],_,_=> .nil e
 |x::xs,vs,h=>by
  simp only[evCs]at h
  obtain⟨u,hu,h⟩:=oB.1 h
  obtain⟨us,hus,h⟩:=oB.1 h
  exact(q0y hu).app (Z0o hus)
theorem Z0p{e:Env}{x:Option X}{v:Int}(h:evLo e x=some v):Vals e (XO.slots x):=by
 cases x with
 |none=>exact .nil e
 |some x=>obtain⟨u,hu,_⟩:=oB.1 h;exact q0y hu
theorem w0S{e:Env}{x:Option X}{v:Option Int}(h:evHi e x=some v):Vals e (XO.slots x):=by
 cases x with
 |none=>exact .nil e
 |some x=>
  simp only[evHi,oM]at h
  obtain⟨u,hu,_⟩:=h
  obtain⟨u,hu,_⟩:=oB.1 hu;exact q0y hu
theorem Q0D{e:Env}: ∀{ps:List (Nat×Nat×X)} {z cs:List C},fillC e z ps=some cs->Vals e (Ps.slots ps)
 | [],_,_,_=> .nil e
 |(o,n,x)::ps,z,cs,h=>by
  simp only[fillC]at h
  obtain⟨u,hu,h⟩:=oB.1 h
  obtain⟨us,hus,h⟩:=oB.1 h
  split at h
  ·exact(j0N hu).app (Q0D h)
  ·cases h
theorem z0Z{R:Type}{e:Env}{x:X}{Ko:Nat->Nat->Option R}{r:R}(h:placeK e x (fun _ _=>none) Ko=some r):Vals e x.slots:=by
 cases x with
 |t p=>
  intro q hq
  simp only[X.slots,List.mem_singleton]at hq;subst hq
  simp only[placeK]at h
  split at h
  ·cases h
  ·cases h
  ·rename_i v hv;exact⟨v,hv⟩
  ·cases h
 |c v=>exact .nil e
 |f g=>exact .nil e
def ROp.vals:ROp->Bool
 | .ldN _ _ | .ldL _ _ _ | .ldsL _ _ _ | .fld _ _ | .idxA _ _ _ _ | .chkd _ _ _ _ _=>false
 |_=>true
theorem w0T{R:Type}{e:Env}{H:Heap}{o:ROp}{K:T->Heap->Option R}{r:R}(hv:o.vals=true)(h:evalOp lim call e H o K=some r):Vals e o.slots:=by
 cases o
 case new=>exact .nil e
 case mkM=>exact .nil e
 case ld=>exact z0Z h
 case lds=>exact z0Z h
 case stH n a x=>
  simp only[evalOp]at h
  obtain⟨v,hv,h⟩:=oB.1 h
  obtain⟨xs,hxs,h⟩:=oB.1 h
  split at h
  ·cases h
  ·exact Vals.app (z0Z h) (j0N hv)
 case nilck x=>
  simp only[evalOp]at h
  obtain⟨x1,h1,h⟩:=oB.1 h
  exact q0y h1
 case mkI x=>
  simp only[evalOp]at h
  obtain⟨x1,h1,h⟩:=oB.1 h
  exact j0N h1
 all_goals
  first
  |(simp[ROp.vals]at hv;done)
  |skip
 all_goals
  simp only[evalOp]at h
  obtain⟨x1,h1,h⟩:=oB.1 h
  first
  |exact j0N h1
  |exact q0y h1
  |exact w0u h1
  |exact J0t h1
  |exact Z0o h1
  |exact Q0D h1
  |(
    obtain⟨x2,h2,h⟩:=oB.1 h
    first
    |exact J0u h1
    |exact Vals.app (q0y h1) (q0y h2)
    |exact Vals.app (w0u h1) (w0u h2)
    |exact Vals.app (q0y h1) (w0u h2)
    |exact Vals.app (J0t h1) (J0t h2)
    |exact Vals.app (j0N h1) (q0y h2)
    |(
     obtain⟨x3,h3,h⟩:=oB.1 h
     first
     |exact Vals.app (q0y h1) (q0y h3)
     |exact Vals.app (j0N h1) (j0N h3)
     |exact Vals.app (q0y h1) (J0u h3)
     |exact Vals.app (q0y h1) (Vals.app (Z0p h2) (w0S h3))
     |(obtain⟨x4,h4,h⟩:=oB.1 h;exact Vals.app (q0y h1) (Vals.app (Z0p h2) (Vals.app (w0S h3) (w0S h4))))
     |exact Vals.app (q0y h1) (Vals.app (q0y h2) (j0N h3))))
theorem Vals.agree{e:Env}{S:List Nat}(h:Vals e S){q:Nat}{cs:List C}(hq:e.get q= .loc cs)(z:T):Agree S e (e.set q z):=fun p hp=>by
 obtain⟨u,hu⟩:=h p hp
 have hne:p≠q:=fun e'=>by subst e';rw[hu]at hq;cases hq
 exact⟨q0h hne,fun q' o hl=>by rw[hu]at hl;cases hl⟩
def ROp.off(q:Nat):ROp->Bool
 | .ldL q' _ _ | .ldsL q' _ _=>q' !=q
 | .fld _ _=>true
 |o=>o.vals
theorem Z0q{R:Type}{e:Env}{a:X}{q q':Nat}{cs z:List C}{Kl:Nat->Nat->Option R}{r:R}(hq:e.get q= .loc cs)(hne:q'≠q)(h:placeK e a (fun p o=>if p=q' then Kl p o else none) (fun _ _=>none)=some r):
  Agree a.slots e (e.set q (.loc z)):=by
 cases a with
 |t s=>
  intro p hp
  simp only[X.slots,List.mem_singleton]at hp;subst hp
  simp only[placeK]at h
  split at h
  ·rename_i c hc
   split at h
   ·rename_i hpq
    exact⟨q0h (by rw[hpq];exact hne),fun q2 o h2=>by rw[hc]at h2;cases h2⟩
   ·cases h
  ·rename_i q2 o hc
   split at h
   ·rename_i hpq;subst hpq
    have hpn:p≠q:=fun e'=>by subst e';rw[hc]at hq;cases hq
    exact⟨q0h hpn,fun q3 o3 h3=>by rw[hc]at h3;cases h3;exact q0h hne⟩
   ·cases h
  ·rename_i v hv
   obtain⟨_,_,h⟩:=oB.1 h
   cases h
  ·cases h
 |c v=>intro p hp;cases hp
 |f g=>intro p hp;cases hp
theorem k1r{R:Type}{e:Env}{H:Heap}{a:X}{o q:Nat}{cs z:List C}{K:T->Heap->Option R}(hq:e.get q= .loc cs)(hl:q<e.length):evalOp lim call (e.set q (.loc z)) H (.fld o a) K=evalOp lim call e H (.fld o a) K:=by
 cases a with
 |t s=>
  simp only[evalOp,placeK]
  by_cases hs:s=q
  ·subst hs;rw[q0K hl,hq]
  ·rw[q0h hs]
 |c v=>rfl
 |f g=>rfl
theorem X0V{e:Env}{q:Nat}{cs:List C}(hq:e.get q= .loc cs):q<e.length:=by
 by_cases h:q<e.length
 ·exact h
 ·unfold Env.get at hq;rw[lG,List.getElem?_eq_none (by omega)]at hq;cases hq
theorem q1O{R:Type}{e:Env}{H:Heap}{o:ROp}{q:Nat}{cs z:List C}{K:T->Heap->Option R}{r:R}(ho:o.off q=true)(hq:e.get q= .loc cs)(h:evalOp lim call e H o K=some r){R2:Type}(K2:T->Heap->Option R2):
  evalOp lim call (e.set q (.loc z)) H o K2=evalOp lim call e H o K2:=by
 cases o
 case fld=>exact k1r hq (X0V hq)
 case ldL q' kd a=>
  simp only[ROp.off,bne_iff_ne,ne_eq]at ho
  exact q0F (o:= .ldL q' kd a) (Z0q hq ho h)
 case ldsL q' kds a=>
  simp only[ROp.off,bne_iff_ne,ne_eq]at ho
  exact q0F (o:= .ldsL q' kds a) (Z0q hq ho h)
 all_goals exact q0F ((w0T (by simpa only[ROp.off]using ho) h).agree hq _)
def ROp.allocs:ROp->Bool
 | .box _ _ | .new _ | .lit _ _ _ _ | .mkS _ _ _=>true
 |_=>false
def swapSt(x y:It):Bool:=match x.g,x.a,y.g,y.a with
 |none, .op (some d) o,none, .st (some q) _ (.t b) v=>d !=b&&d !=q&& !v.slots.contains d&&o.off q&& !o.allocs
 |_,_,_,_=>false
theorem K1O{x y:It}{e e1 e2:Env}{H H1 H2:Heap}{W:List Nat}(hs:swapSt x y=true)(hf:Free e W)(hx: ∀p∈x.a.writes,p∈W)
  (h1:stepI lim call x e H=some (e1,H1)) (h2:stepI lim call y e1 H1=some (e2,H2)): ∃e3 H3,stepI lim call y e H=some (e3,H3)/\stepI lim call x e3 H3=some (e2,H2):=by
 obtain⟨xi,xg,xa⟩:=x
 obtain⟨yi,yg,ya⟩:=y
 unfold swapSt at hs
 simp only at hs
 split at hs
 ·rename_i d o q n b v
  simp only[bA,bne_iff_ne,ne_eq,bN,List.contains_eq_mem,dN]at hs
  obtain⟨⟨⟨⟨hdb,hdq⟩,hdv⟩,hoff⟩,_⟩:=hs
  simp only[stepI,stepA]at h1
  obtain⟨t,H1',h1',hn⟩:=q0r h1
  cases h1'
  simp only[Env.setO]at h2
  simp only[stepI,stepA]at h2
  have hgb:Env.get (e.set d t) b=e.get b:=q0h (Ne.symm hdb)
  have hgq:locCells (e.set d t) q=locCells e q:=by simp only[locCells,q0h (Ne.symm hdq)]
  have hev:ev (e.set d t) v=ev e v:=by
   cases v with
   |t s=>simp only[ev,X.slots,List.mem_singleton]at hdv⊢;rw[q0h (Ne.symm hdv)]
   |c v=>rfl
   |f g=>rfl
  rw[hev]at h2
  obtain⟨vv,hvv,h2⟩:=oB.1 h2
  obtain⟨xs,hxs,h2⟩:=oB.1 h2
  split at h2
  ·cases h2
  ·rename_i hlen
   have fin: ∀o2,((locCells (e.set d t) q).bind fun cs=>if o2+n<=cs.length then some ((e.set d t).set q (.loc (splice cs o2 xs)),H1)else none)=some (e2,H2)-> ∃cs,locCells e q=some cs/\o2+n<=cs.length/\H2=H1/\
     stepI lim call ⟨xi,none, .op (some d) o⟩ (e.set q (.loc (splice cs o2 xs))) H=some (e2,H2):=by
    intro o2 h2
    rw[hgq]at h2
    obtain⟨cs,hcs,h2⟩:=oB.1 h2
    split at h2
    ·rename_i hle
     cases h2
     refine⟨cs,hcs,hle,rfl, ?_⟩
     have hq:e.get q= .loc cs:=by
      unfold locCells at hcs
      split at hcs
      ·rename_i c hc;cases hcs;exact hc
      ·cases hcs
     simp only[stepI,stepA]
     rw[q1O hoff hq h1,hn.all]
     simp only[Env.setO]
     rw[List.set_comm _ _ hdq]
    ·cases h2
   simp only[placeK,hgb]at h2
   cases hb:e.get b with
   |poison=>rw[hb]at h2;cases h2
   |val w=>
    rw[hb]at h2
    obtain⟨a,ha,h2⟩:=oB.1 h2
    simp at h2
   |loc cs=>
    rw[hb]at h2
    simp only at h2
    split at h2
    ·cases h2
    ·rename_i hqb
     simp only[ne_eq,oI,Decidable.not_not]at hqb
     subst hqb
     obtain⟨cs',k1,k2,k3,k4⟩:=fin 0 h2
     refine⟨_,_, ?_,k4⟩
     simp only[stepI,stepA]
     rw[hvv,oS,hxs,oS,if_neg hlen]
     simp only[placeK,hb,ne_eq,not_true_eq_false,iF,k1,oS,if_pos k2]
   |laddr q' o'=>
    rw[hb]at h2
    simp only at h2
    split at h2
    ·cases h2
    ·rename_i hqb
     simp only[ne_eq,oI,Decidable.not_not]at hqb
     subst hqb
     obtain⟨cs',k1,k2,k3,k4⟩:=fin o' h2
     refine⟨_,_, ?_,k4⟩
     simp only[stepI,stepA]
     rw[hvv,oS,hxs,oS,if_neg hlen]
     simp only[placeK,hb,ne_eq,not_true_eq_false,iF,k1,oS,if_pos k2]
 ·cases hs
def ROp.rms(ds:List Nat):ROp->ROp
 | .chkd o d p ag ks=>if ds.contains d then o.rms ds else .chkd (o.rms ds) d p ag ks
 |o=>o
def ROp.has(d p:Nat)(ag:Bool)(ks:List K0):ROp->Bool
 | .chkd o d' p' ag' ks'=>(d==d'&&p==p'&&ag==ag'&&ks==ks')||o.has d p ag ks
 |_=>false
def ROp.isChk:ROp->Bool
 | .chkd _ _ _ _ _=>true
 |_=>false
theorem q1P{ds:List Nat}{o:ROp}(h:o.isChk=false):o.rms ds=o:=by cases o<;>first |rfl |simp[ROp.isChk]at h
theorem k1s(ds:List Nat)(o:ROp):(o.rms ds).core=o.core:=by
 induction o
 case chkd o d p ag ks ih=>
  simp only[ROp.rms]
  split
  ·exact ih
  ·exact ih
 all_goals rfl
theorem q1Q{ds:List Nat}{o:ROp}: ∀p∈(o.rms ds).slots,p∈o.slots:=by
 induction o
 case chkd o d p ag ks ih=>
  intro q hq
  simp only[ROp.rms]at hq
  simp only[ROp.slots,mA]
  split at hq
  ·exact .inl (ih q hq)
  ·simp only[ROp.slots,mA]at hq
   exact hq.imp (ih q) id
 all_goals exact fun p hp=>hp
theorem k0U{R:Type}{e:Env}{H:Heap}(ds:List Nat){o:ROp}{K:T->Heap->Option R}{r:R}(h:evalOp lim call e H o K=some r):evalOp lim call e H (o.rms ds) K=some r:=by
 induction o generalizing K
 case chkd o d p ag ks ih=>
  simp only[evalOp]at h
  simp only[ROp.rms]
  split
  ·obtain⟨t,H',h1,hn⟩:=q0r (ih h)
   split at h1
   ·rw[hn.all];exact h1
   ·cases h1
  ·simp only[evalOp];exact ih h
 all_goals exact h
theorem X0W{R:Type}{e:Env}{H:Heap}{d p:Nat}{ag:Bool}{ks:List K0}{o:ROp}{K:T->Heap->Option R}{r:R}(hh:o.has d p ag ks=true)(h:evalOp lim call e H o K=some r):
  ∃t H',K t H'=some r/\seen e H' d p ag ks=true/\ ∀{R2:Type} (K2:T->Heap->Option R2),evalOp lim call e H o K2=K2 t H':=by
 induction o generalizing K
 case chkd o d' p' ag' ks' ih=>
  obtain⟨t,H',h1,hn⟩:=q0r h
  simp only[ROp.has,Bool.or_eq_true,bA,beq_iff_eq]at hh
  refine⟨t,H',h1, ?_,hn.all⟩
  rcases hh with⟨⟨⟨rfl,rfl⟩,rfl⟩,rfl⟩ |hh
  ·simp only[evalOp]at h
   obtain⟨t2,H2,h2,hn2⟩:=q0r h
   split at h2
   ·rename_i hs
    have h3:=hn.all (R2:=T×Heap) fun t H=>some (t,H)
    simp only[evalOp]at h3
    rw[hn2.all,if_pos hs]at h3
    cases h3;exact hs
   ·cases h2
  ·simp only[evalOp]at h
   obtain⟨t2,H2,h2,hs,hn2⟩:=ih hh h
   split at h2
   ·rename_i hs2
    have h3:=hn.all (R2:=T×Heap) fun t H=>some (t,H)
    simp only[evalOp]at h3
    rw[hn2,if_pos hs2]at h3
    cases h3;exact hs
   ·cases h2
 all_goals simp[ROp.has]at hh
def rdOf:ROp->Option (Nat×Bool×List K0)
 | .ld kd (.t p)=>some (p,false,[kd])
 | .lds kds (.t p)=>some (p,true,kds)
 |_=>none
theorem X0X{o:ROp}{p:Nat}{ag:Bool}{ks:List K0}(h:rdOf o=some (p,ag,ks)):o.slots=[p]/\o.quiet=true:=by
 unfold rdOf at h
 split at h<;>cases h<;>exact⟨rfl,rfl⟩
theorem Q1Q{R:Type}{o:ROp}{p:Nat}{ag:Bool}{ks:List K0}(h:rdOf o=some (p,ag,ks)){e:Env}{H:Heap}{v:V}(hr:H.rd e p ag ks=some v)(K:T->Heap->Option R):evalOp lim call e H o K=K (.val v) H:=by
 unfold rdOf at h
 unfold Heap.rd at hr
 split at hr
 ·rename_i u hu
  obtain⟨a,ha,hr⟩:=oB.1 hr
  split at h<;>cases h
  ·simp only[bF,iF,List.headD_cons]at hr
   obtain⟨x,hx,hr⟩:=oB.1 hr
   obtain⟨y,hy,hn⟩:=j0b hr
   cases hy
   simp only[evalOp,placeK,hu,ha,oS,hx]
   exact hn _
  ·simp only[iT]at hr
   obtain⟨y,hy,hn⟩:=Z0Z hr
   cases hy
   simp only[evalOp,placeK,hu,ha,oS]
   exact hn _
 ·cases hr
def Gd.slots:Gd->List Nat
 |some (c,_)=>[c]
 |none=>[]
def swapC(x y:It):Bool:=match x.a,y.a with
 | .op (some d) ox, .op dy oy=>match rdOf ox with
  |some (p,ag,ks)=>oy.has d p ag ks&&p !=d&& !(oy.rms [d]).slots.contains d&& !dy.toList.contains d&& !dy.toList.contains p&& !x.reads.any (fun c=>dy.toList.contains c)&& !(Gd.slots y.g).contains d
  |none=>false
 |_,_=>false
def It.rms(ds:List Nat)(y:It):It:=match y.a with
 | .op dy oy=>⟨y.i,y.g, .op dy (oy.rms ds)⟩
 |_=>y
theorem Z0r{y:It}{e e2:Env}{H H2:Heap}(ds:List Nat)(h:stepI lim call y e H=some (e2,H2)):stepI lim call (y.rms ds) e H=some (e2,H2):=by
 obtain⟨i,g,a⟩:=y
 cases a with
 |op dy oy=>
  simp only[It.rms]
  cases g with
  |none=>simp only[stepI,stepA]at h⊢;exact k0U ds h
  |some z=>
   obtain⟨c,want⟩:=z
   simp only[stepI,stepA]at h⊢
   obtain⟨b,hb,h⟩:=oB.1 h
   rw[hb,oS]
   split
   ·rename_i hw;rw[if_pos hw]at h;exact k0U ds h
   ·rename_i hw;rw[if_neg hw]at h;exact h
 |_=>exact h
theorem q1R{g:Gd}{e e3:Env}(h: ∀c∈Gd.slots g,e3.get c=e.get c): ∀c w,g=some (c,w)->guardOf e3 c=guardOf e c:=fun c w hg=>by
 subst hg;exact q0W (h c (by simp[Gd.slots]))
theorem k0a{i:Nat}{g:Gd}{a:At}{e e2:Env}{H H2:Heap}(h:stepI lim call ⟨i,g,a⟩ e H=some (e2,H2)):
  (stepA lim call a e H=some (e2,H2)/\ ∀a' e3 H3,(∀c∈Gd.slots g,e3.get c=e.get c)->stepI lim call ⟨i,g,a'⟩ e3 H3=stepA lim call a' e3 H3)\/
  (e2=e.setO a.dst off/\H2=H/\ ∀a' e3 H3,a'.dst=a.dst->(∀c∈Gd.slots g,e3.get c=e.get c)->stepI lim call ⟨i,g,a'⟩ e3 H3=some (e3.setO a.dst off,H3)):=by
 cases g with
 |none=>exact .inl ⟨h,fun a' e3 H3 _=>rfl⟩
 |some z=>
  obtain⟨c,want⟩:=z
  simp only[stepI]at h
  obtain⟨b,hb,h⟩:=oB.1 h
  split at h
  ·rename_i hw
   exact .inl ⟨h,fun a' e3 H3 hg=>by simp only[stepI];rw[q1R hg c want rfl,hb,oS,if_pos hw]⟩
  ·rename_i hw
   cases h
   exact .inr ⟨rfl,rfl,fun a' e3 H3 ha hg=>by simp only[stepI];rw[q1R hg c want rfl,hb,oS,if_neg hw,ha]⟩
theorem K1P{x y:It}{e e1 e2:Env}{H H1 H2:Heap}{W:List Nat}(hs:swapC x y=true)(hf:Free e W)(hx: ∀p∈x.a.writes,p∈W)
  (h1:stepI lim call x e H=some (e1,H1)) (h2:stepI lim call y e1 H1=some (e2,H2)): ∃e3 H3,stepI lim call (y.rms x.a.writes) e H=some (e3,H3)/\stepI lim call x e3 H3=some (e2,H2):=by
 obtain⟨xi,xg,xa⟩:=x
 obtain⟨yi,yg,ya⟩:=y
 unfold swapC at hs
 simp only at hs
 split at hs
 rotate_left
 ·cases hs
 rename_i d ox dy oy
 split at hs
 rotate_left
 ·cases hs
 rename_i p ag ks hrd
 simp only[bA,bne_iff_ne,ne_eq,bN,List.contains_eq_mem,dN,List.any_eq_false,dE]at hs
 obtain⟨⟨⟨⟨⟨⟨hhas,hpd⟩,hnd⟩,hdy⟩,hpy⟩,hxr⟩,hgd⟩:=hs
 obtain⟨hsl,hqu⟩:=X0X hrd
 have hvals:ox.vals=true:=by
  unfold rdOf at hrd
  split at hrd<;>first |rfl |cases hrd
 have hxg: ∀t,∀c∈Gd.slots xg,Env.get (e.setO dy t) c=e.get c:=fun t c hc=>by
  have:c∉dy.toList:=hxr c (by
   simp only[It.reads,mA];left
   cases xg with
   |none=>simp[Gd.slots]at hc
   |some z=>obtain⟨c',w⟩:=z;simpa[Gd.slots]using hc)
  cases dy with
  |none=>rfl
  |some d2=>exact q0h (by simpa using this)
 have hyg: ∀t,∀c∈Gd.slots yg,e.get c=Env.get (e.set d t) c:=fun t c hc=>(q0h (fun e'=>hgd (by rw[<-e'];exact hc))).symm
 have hgp: ∀t,Env.get (e.setO dy t) p=e.get p:=fun t=>by
  cases dy with
  |none=>rfl
  |some d2=>exact q0h (by simpa using hpy)
 have hcomm: ∀t t',Env.setO (e.set d t) dy t'=(e.setO dy t').set d t:=fun t t'=>by
  cases dy with
  |none=>rfl
  |some d2=>exact List.set_comm _ _ (by simpa using hdy)
 have hdW:d∈W:=hx d (by simp[At.writes])
 have hagd: ∀t,Agree (oy.rms [d]).slots (e.set d t) e:=fun t q hq=>by
  have hqd:q≠d:=fun e'=>hnd (by subst e';exact hq)
  refine⟨(q0h hqd).symm,fun q2 o hl=> ?_⟩
  rw[q0h hqd]at hl
  have:q2≠d:=fun e'=>(hf d hdW).2 q o (by rw[hl,e'])
  exact(q0h this).symm
 have yfirst: ∀t,stepI lim call ⟨yi,yg, .op dy oy⟩ (e.set d t) H=some (e2,H2)->(∃t',stepI lim call (It.rms [d] ⟨yi,yg, .op dy oy⟩) e H=some (e.setO dy t',H2)/\e2=(e.setO dy t').set d t/\(H2=H\/seen (e.set d t) H2 d p ag ks=true)):=by
  intro t h2
  rcases k0a h2 with⟨h3,h4⟩ |⟨h3,h4,h5⟩
  ·simp only[stepA]at h3
   obtain⟨t1,H3,h6,h7,_⟩:=X0W hhas h3
   have h8:=k0U [d] h3
   obtain⟨t2,H4,h9,hn⟩:=q0r h8
   simp only[oI,Prod.mk.injEq]at h6 h9
   obtain⟨h9a,rfl⟩:=h9
   obtain⟨h6a,rfl⟩:=h6
   refine⟨t2, ?_,by rw[<-h9a,hcomm], .inr h7⟩
   simp only[It.rms]
   rw[h4 _ e H (hyg t)]
   simp only[stepA]
   rw[q0F (hagd t),hn.all]
  ·subst h4
   refine⟨off, ?_,by rw[h3];exact hcomm t off, .inl rfl⟩
   simp only[It.rms]
   exact h5 (.op dy (oy.rms [d])) e H2 rfl (hyg t)
 rcases k0a h1 with⟨h3,h4⟩ |⟨h3,h4,h5⟩
 ·simp only[stepA]at h3
  obtain⟨t,H',h6,hn⟩:=q0r h3
  cases h6
  have hHH:=hn.quiet hqu
  subst hHH
  obtain⟨t',h7,rfl,h8⟩:=yfirst t h2
  refine⟨_,_,h7, ?_⟩
  rw[h4 _ _ _ (hxg t')]
  simp only[stepA]
  rcases h8 with h8 |h8
  ·subst h8
   have hv:=w0T hvals h3
   rw[hsl]at hv
   obtain⟨u,hu⟩:=hv p (by simp)
   rw[q0F (e:=e) (e2:=e.setO dy t') (o:=ox) (by
    intro q hq;rw[hsl]at hq;simp only[List.mem_singleton]at hq;subst hq
    exact⟨hgp t',fun q2 o hl=>by rw[hu]at hl;cases hl⟩),hn.all]
   rfl
  ·unfold seen at h8
   split at h8
   ·rename_i u hu
    split at h8
    ·rename_i v hv
     have hvu:=q1L h8
     subst hvu
     have hr:Heap.rd H2 (e.setO dy t') p ag ks=some v:=by
      unfold Heap.rd at hv⊢
      rw[q0h hpd]at hv
      rw[hgp];exact hv
     rw[Q1Q hrd hr]
     have ht:t= .val v:=by
      rcases J0q (e:=e) (d:=d) (p:=d) (t:=t)with h |h
      ·rw[h]at hu;exact hu
      ·by_cases hlt:d<e.length
       ·rw[q0K hlt]at hu;exact hu
       ·rw[h]at hu
        unfold Env.get at hu
        rw[lG,List.getElem?_eq_none (by omega)]at hu;cases hu
     rw[ht];rfl
    ·cases h8
   ·cases h8
 ·subst h3 h4
  obtain⟨t',h7,rfl,h8⟩:=yfirst off h2
  exact⟨_,_,h7,h5 _ _ _ rfl (hxg t')⟩
def At.lets:At->List Nat
 | .lbox _ p _=>[p]
 | .lnew p _=>[p]
 |_=>[]
def W(its:List It):List Nat:=its.flatMap fun it=>it.a.writes
theorem k0w{x:It}{e e1:Env}{H H1:Heap}{S S2:List Nat}(h:stepI lim call x e H=some (e1,H1))(hf:Free e S)(hl: ∀p∈x.a.lets,p∉S2)(hs: ∀p∈S2,p∈S):Free e1 S2:=by
 by_cases ht:x.a.tame=true
 ·obtain⟨f,rfl,hd⟩:=j0k ht h
  refine Free.sets (hf.sub hs) fun y hy=>⟨fun cs hc=> ?_,fun q o hq hS=>hf.rooted ((hd.locs y hy).2 q o hq) (hs q hS)⟩
  obtain⟨n,z,zs,h1⟩:=(hd.locs y hy).1 cs hc
  refine hl y.1 ?_
  rcases h1 with h1 |h1<;>rw[h1]<;>simp[At.lets]
 ·obtain⟨i,g,a⟩:=x
  cases a with
  |st hp n b x=>
   have stp: ∀{e1 H1},stepA lim call (.st hp n b x) e H=some (e1,H1)->Free e1 S2:=by
    intro e1 H1 h
    simp only[stepA]at h
    obtain⟨v,hv,h⟩:=oB.1 h
    obtain⟨xs,hxs,h⟩:=oB.1 h
    split at h
    ·cases h
    ·rcases q0o h with⟨p,o,h,hroot,hn⟩ |⟨j,o,h,hn⟩
     ·split at h
      ·cases h
      ·obtain⟨cs,hcs,h⟩:=oB.1 h
       split at h
       ·cases h
        exact(hf.sub hs).set (fun _ _ hp=>hf.rooted hroot (hs p hp)) (fun q o ht=>by cases ht)
       ·cases h
     ·split at h
      ·cases h
      obtain⟨H1,hst,h⟩:=oB.1 h
      cases h
      exact hf.sub hs
   cases g with
   |none=>exact stp h
   |some y=>
    obtain⟨c,want⟩:=y
    simp only[stepI]at h
    obtain⟨b,hb,h⟩:=oB.1 h
    split at h
    ·exact stp h
    ·cases h;exact hf.sub hs
  |_=>simp[At.tame]at ht
def apartL(x y:It):Bool:=x.a.lets.all (fun p=> !y.a.writes.contains p)&&y.a.lets.all (fun p=> !x.a.writes.contains p)
theorem k0V(ds:List Nat)(y:It):(y.rms ds).a.writes=y.a.writes/\(y.rms ds).a.lets=y.a.lets/\(y.rms ds).a.tame=y.a.tame/\(y.rms ds).i=y.i/\(y.rms ds).g=y.g:=by
 obtain⟨i,g,a⟩:=y
 cases a<;>exact⟨rfl,rfl,rfl,rfl,rfl⟩
theorem q1S{ds:List Nat}{y:It}: ∀p∈(y.rms ds).reads,p∈y.reads:=by
 obtain⟨i,g,a⟩:=y
 cases a with
 |op dy oy=>
  intro p hp
  simp only[It.rms,It.reads,At.reads,mA]at hp⊢
  exact hp.imp id (q1Q p)
 |_=>exact fun p hp=>hp
theorem Z1V{ds:List Nat}{y:It}(h:y.a.quiet=true):y.rms ds=y:=by
 obtain⟨i,g,a⟩:=y
 cases a with
 |op dy oy=>
  simp only[It.rms]
  rw[q1P]
  cases oy<;>first |rfl |simp[At.quiet,ROp.quiet,ROp.neutral]at h
 |_=>rfl
theorem X0Y{x y:It}(ds:List Nat)(h:swapOK x y=true):swapOK x (y.rms ds)=true:=by
 by_cases hq:y.a.quiet=true
 ·rw[Z1V hq];exact h
 ·obtain⟨h1,_,h3,_,_⟩:=k0V ds y
  simp only[swapOK,bA,List.all_eq_true,bN,List.contains_eq_mem,dN,Bool.or_eq_true]at h⊢
  rw[h1,h3]
  obtain⟨⟨⟨h4,h5⟩,h6⟩,h7⟩:=h
  refine⟨⟨⟨h4,fun p hp=>⟨fun hr=>(h5 p hp).1 (q1S p hr),(h5 p hp).2⟩⟩,h6⟩, .inl (.inl ?_)⟩
  rcases h7 with(h7 |h7) |h7
  ·exact h7
  ·exact absurd (j0q h7) hq
  ·exact absurd h7.2 hq
theorem rms_rms(o:ROp)(ds ds2:List Nat):(o.rms ds).rms ds2=o.rms (ds2++ds):=by
 induction o
 case chkd o d p ag ks ih=>
  simp only[ROp.rms,List.contains_eq_mem,mA]
  by_cases h1:d∈ds
  ·simp[h1,ih]
  ·by_cases h2:d∈ds2
   ·simp[h1,h2,ROp.rms,ih]
   ·simp[h1,h2,ROp.rms,ih]
 all_goals rfl
theorem It.rms_rms(y:It)(ds ds2:List Nat):(y.rms ds).rms ds2=y.rms (ds2++ds):=by
 obtain⟨i,g,a⟩:=y
 cases a with
 |op dy oy=>simp only[It.rms,Vm.rms_rms]
 |_=>rfl
theorem rms_nil(o:ROp):o.rms []=o:=by
 induction o
 case chkd o d p ag ks ih=>simp[ROp.rms,ih]
 all_goals rfl
theorem It.rms_nil(y:It):y.rms []=y:=by
 obtain⟨i,g,a⟩:=y
 cases a with
 |op dy oy=>simp only[It.rms,Vm.rms_nil]
 |_=>rfl
theorem Q1R{d p:Nat}{ag:Bool}{ks:List K0}{ds:List Nat}(hd:d∉ds){o:ROp}(h:o.has d p ag ks=true):(o.rms ds).has d p ag ks=true:=by
 induction o
 case chkd o d' p' ag' ks' ih=>
  simp only[ROp.has,Bool.or_eq_true,bA,beq_iff_eq]at h
  simp only[ROp.rms,List.contains_eq_mem]
  split
  ·rename_i hc
   simp only[dE]at hc
   rcases h with⟨⟨⟨rfl,_⟩,_⟩,_⟩ |h
   ·exact absurd hc hd
   ·exact ih h
  ·simp only[ROp.has,Bool.or_eq_true,bA,beq_iff_eq]
   exact h.imp id ih
 all_goals simp[ROp.has]at h
theorem q1T{x y:It}{ds:List Nat}(h:swapC x y=true)(hd: ∀p∈x.a.writes,p∉ds):swapC x (y.rms ds)=true:=by
 obtain⟨xi,xg,xa⟩:=x
 obtain⟨yi,yg,ya⟩:=y
 unfold swapC at h⊢
 simp only at h
 split at h
 rotate_left
 ·cases h
 rename_i d ox dy oy
 split at h
 rotate_left
 ·cases h
 rename_i p ag ks hrd
 have hdd:d∉ds:=hd d (by simp[At.writes])
 simp only[It.rms,hrd]
 simp only[bA,bne_iff_ne,ne_eq,bN,List.contains_eq_mem,dN,List.any_eq_false,dE]at h⊢
 obtain⟨⟨⟨⟨⟨⟨hhas,hpd⟩,hnd⟩,hdy⟩,hpy⟩,hxr⟩,hgd⟩:=h
 refine⟨⟨⟨⟨⟨⟨Q1R hdd hhas,hpd⟩,fun hc=>hnd ?_⟩,hdy⟩,hpy⟩,hxr⟩,hgd⟩
 rw[rms_rms]at hc
 have:oy.rms ([d]++ds)=(oy.rms [d]).rms ds\/True:= .inr trivial
 have key: ∀(o:ROp) (q:Nat),q∈(o.rms ([d]++ds)).slots->q∈(o.rms [d]).slots:=by
  intro o q hq
  induction o
  case chkd o d' p' ag' ks' ih=>
   simp only[ROp.rms,List.contains_eq_mem,mA,List.mem_singleton,dE]at hq⊢
   by_cases h1:d'=d
   ·simp only[h1,true_or,iT]at hq⊢;exact ih hq
   ·simp only[h1,false_or,iF]at hq⊢
    simp only[ROp.slots,mA]
    split at hq
    ·exact .inl (ih hq)
    ·simp only[ROp.slots,mA]at hq;exact hq.imp ih id
  all_goals exact hq
 exact key oy d hc
theorem X0Z{x y:It}{ds:List Nat}(h:swapSt x y=true):y.rms ds=y:=by
 obtain⟨yi,yg,ya⟩:=y
 unfold swapSt at h
 split at h
 ·rename_i h4;simp only at h4;subst h4;rfl
 ·cases h
def Cross(y:It):List It->Prop
 | []=>True
 |x::xs=>((∃ds,(∀p∈ds,p∈W xs)/\swapOK x (y.rms ds)=true)\/swapSt x y=true\/swapC x y=true)/\Cross y xs
theorem k1t{ds ds2:List Nat}(h: ∀p∈ds,p∈ds2)(y:It):(y.rms ds).rms ds2=y.rms ds2:=by
 rw[It.rms_rms]
 obtain⟨i,g,a⟩:=y
 cases a with
 |op dy oy=>
  simp only[It.rms]
  congr 2
  induction oy
  case chkd o d p ag ks ih=>
   have hc:(ds2++ds).contains d=ds2.contains d:=by
    simp only[List.contains_eq_mem,mA,decide_eq_decide]
    exact⟨fun h'=>h'.elim id (h d), .inl⟩
   simp only[ROp.rms,hc,ih]
  all_goals rfl
 |_=>rfl
def OnceC(y:It)(xs:List It):Prop:=xs.Pairwise fun a b=>swapC a y=true-> ∀p∈a.a.writes,p∉b.a.writes
theorem K1U{y:It}{ys:List It}{eF:Env}{HF:Heap}: ∀{xs:List It} {e:Env} {H:Heap},Cross y xs->(∀x∈xs,apartL x y=true)->xs.Pairwise (fun a b=>apartL a b=true)->(∀x∈xs,∀z∈ys,apartL x z=true)->OnceC y xs->Free e (W (xs++y::ys))->
  flat lim call (xs++y::ys) e H=some (eF,HF)-> ∃e1 H1,stepI lim call (y.rms (W xs)) e H=some (e1,H1)/\flat lim call (xs++ys) e1 H1=some (eF,HF)
 | [],e,H,_,_,_,_,_,_,h=>by
  simp only[List.nil_append,flat]at h
  obtain⟨⟨e1,H1⟩,h1,h2⟩:=oB.1 h
  exact⟨e1,H1,by simpa[W,It.rms_nil]using h1,h2⟩
 |x::xs,e,H,hs,ha,hp,hz,ho,hf,h=>by
  simp only[List.cons_append,flat]at h
  obtain⟨⟨e1,H1⟩,h1,h2⟩:=oB.1 h
  rw[List.pairwise_cons]at hp
  unfold OnceC at ho
  rw[List.pairwise_cons]at ho
  have hlets: ∀p∈x.a.lets,p∉W (xs++y::ys):=by
   intro p hpx hpw
   simp only[W,List.mem_flatMap]at hpw
   obtain⟨z,hz1,hz2⟩:=hpw
   have hap:apartL x z=true:=by
    rw[mA,mC]at hz1
    rcases hz1 with h |rfl |h
    ·exact hp.1 z h
    ·exact ha x (by simp)
    ·exact hz x (by simp) z h
   simp only[apartL,bA,List.all_eq_true,bN,List.contains_eq_mem,dN]at hap
   exact hap.1 p hpx hz2
  have hf1:Free e1 (W (xs++y::ys)):=k0w h1 hf hlets fun p hp=>by simp[W]at hp⊢;exact .inr hp
  obtain⟨e2,H2,h3,h4⟩:=K1U hs.2 (fun x hx=>ha x (by simp[hx])) hp.2 (fun x hx=>hz x (by simp[hx])) ho.2 hf1 h2
  obtain⟨hw,_,_,_,_⟩:=k0V (W xs) y
  have hxW: ∀p∈x.a.writes,p∈W (x::xs++y::ys):=fun p hp=>by simp[W,hp]
  obtain⟨e3,H3,h5,h6⟩: ∃e3 H3,stepI lim call (y.rms (W (x::xs))) e H=some (e3,H3)/\stepI lim call x e3 H3=some (e2,H2):=by
   have hW:W (x::xs)=x.a.writes++W xs:=rfl
   rw[hW,<-It.rms_rms]
   rcases hs.1 with⟨ds,hds,hsx⟩ |hsx |hsx
   ·obtain⟨e3,H3,h5,h6⟩:=X1g (W:=W (x::xs++y::ys)) (by have:=X0Y (W xs) hsx;rwa [k1t hds]at this) hf hxW (fun p hp=>by rw[hw]at hp;simp[W];exact .inr (.inr (.inl hp))) h1 h3
    exact⟨e3,H3,Z0r _ h5,h6⟩
   ·have e0:=X0Z (ds:=W xs) hsx
    rw[e0]at h3⊢
    obtain⟨e3,H3,h5,h6⟩:=K1O (W:=W (x::xs++y::ys)) hsx hf hxW h1 h3
    exact⟨e3,H3,Z0r _ h5,h6⟩
   ·have hd: ∀p∈x.a.writes,p∉W xs:=fun p hp hpw=>by
     simp only[W,List.mem_flatMap]at hpw
     obtain⟨z,hz1,hz2⟩:=hpw
     exact ho.1 z hz1 hsx p hp hz2
    exact K1P (W:=W (x::xs++y::ys)) (q1T hsx hd) hf hxW h1 h3
  exact⟨e3,H3,h5,by rw[List.cons_append,q0S h6];exact h4⟩
end
variable{lim:Nat}{P:Program}
def Beyond(K:Act->World->Prop)(Q:Exit->Act->World->Prop):Exit->Act->World->Prop
 | .normal,a,w=>K a w
 |ex,a,w=>Q ex a w
theorem K0e{ops:Array Oper}{K:Act->World->Prop}{Q:Exit->Act->World->Prop}{i:Nat}{a:Act}{w:World}(h:wpOps P ops (Beyond K Q) [i] a w):wpOp P ops Q i K a w:=by
 rw[wpOps_cons]at h
 unfold wpOp at h⊢
 split
 ·rename_i ho
  simp only[ho]at h
  exact h
 ·rename_i o ho
  simp only[ho]at h
  split
  ·rename_i hw
   simp only[hw,iT]at h
   rcases h with h |⟨h1,a',w',h2⟩
   ·left
    unfold Oper.wp at*
    generalize (execOp a.eval o).run P w=r at*
    cases r with
    |ok n w'=>
     cases n<;>simp only[Oper.upon]at h⊢ <;>
      first
       |exact h
       |exact Calls.mono h (fun e w'' he=>by cases e<;>first |exact he |(obtain⟨a',w',h2⟩:=he;exact⟨a',w',h2⟩))
       |exact Rows.mono h (fun _ _ he=>he)
    |halt x w'=>cases x<;>simp only[Oper.upon]at h⊢ <;>exact h
   ·exact .inr ⟨h1,a',w',h2⟩
  ·rename_i hw
   simp only[hw]at h
   exact h
def gmatch(ops:Array Oper):Gd->Gd->Bool
 |none,none=>true
 |some (c,want),some (j,want')=>want==want'&&(ops[j]?).bind (·.dst)==some c
 |_,_=>false
def chkAt(P:Program)(a:At)(o:Oper):Bool:=match a with
 | .op d rop=>o.dst==d&&chkOp P rop.core o
 | .lbox n p x=>o.dst==some p&&isBox x o
 | .lnew p z=>o.dst==some p&&isNew P z o
 | .st _ n b x=>o.dst==none&&isSt P n b x o
 | .pick and c keep d _=>o.dst==some d&&isPick and c keep o
def chkIt(P:Program)(ops:Array Oper)(it:It):Bool:=match ops[it.i]? with
 |some o=>chkAt P it.a o&&gmatch ops it.g o.guard&&(match it.g with
  |some (c,_)=> !it.a.writes.contains c
  |none=>true)
 |none=>false
theorem q1U{base:Nat}{φ:Phi}{ψ:Nat->Nat}{e:Env}{ts:Array Value}{w:World}(he:ERel lim base φ ψ e ts w){c:Nat}{b:Option Bool}(h:guardOf e c=some b):
  ts[c]? =some (match b with |some b=> .bool b |none=> .tuple #[]):=by
 unfold guardOf at h
 split at h
 ·rename_i v hv
  cases h
  obtain⟨x,hx,hr⟩:=he.tmp c _ (Env.get_eq hv (by simp))
  cases hr with |c hr=>cases hr;exact hx
 ·rename_i hv
  cases h
  obtain⟨x,hx,hr⟩:=he.tmp c _ (Env.get_eq hv (by simp))
  cases hr with | @tuple _ arr hr=>
   have:arr.toList=[]:=by
    generalize arr.toList=l at hr
    cases hr;rfl
   rw[hx];congr 2;exact Array.toList_inj.1 this
 ·cases h
section
variable{call:CallT}(hcall:CallOK lim P call){ops:Array Oper}{Q:Exit->Act->World->Prop}{φ0:Phi}{w0:World}
include hcall
theorem Y0a{it:It}(hc:chkIt P ops it=true){a:Act}{e e2:Env}{H H2:Heap}{φ:Phi}{ψ:Nat->Nat}{w:World}{W:List Nat}{K:Act->World->Prop}
  (he:ERel lim w0.heap.size φ ψ e a.tmps w) (hH:HRel lim φ H w) (hx:Ext lim φ0 w0 φ w) (hf:Free e W) (hw: ∀p∈it.a.writes,p∈W) (h:stepI lim call it e H=some (e2,H2))
  (hK: ∀a' w' φ' ψ',ERel lim w0.heap.size φ' ψ' e2 a'.tmps w'->HRel lim φ' H2 w'->Ext lim φ0 w0 φ' w'->a'.defers=a.defers->(∀(p:Nat),p∉it.a.writes->a'.tmps[p]? =a.tmps[p]?)->(∀b cs,Priv lim φ w e ψ b cs->Priv lim φ' w' e2 ψ' b cs)->K a' w'):wpOp P ops Q it.i K a w:=by
 obtain⟨i,g,at_⟩:=it
 unfold chkIt at hc
 split at hc
 ·rename_i o ho
  simp only[bA]at hc
  obtain⟨⟨hat,hgm⟩,hown⟩:=hc
  simp only at ho hat hgm hown hw
  have on:gOK ops o.guard a at_.writes->stepA lim call at_ e H=some (e2,H2)->wpOp P ops Q i K a w:=by
   intro hg h
   have fin: ∀(os:Ops),chkOps P ops o.guard os i=some 1->dsts os=at_.writes->runOps lim call os e H (fun e H=>some (e,H))=some (e2,H2)->wpOp P ops Q i K a w:=by
    intro os h1 h2 h3
    refine K0e ?_
    have:=Z0j hcall (ops:=ops) (Q:=Beyond K Q) (φ0:=φ0) (w0:=w0) os (fun e H=>some (e,H)) (e2,H2) o.guard i 1 a e H φ ψ w [] h1 (by rw[h2];exact hg) h3 he hH hx
     (fun e' H' φ' ψ' a' w' hk hl=>by
      cases hk
      simp only[wpOps]
      exact hK a' w' φ' ψ' hl.env hl.heap hl.ext hl.defers (fun p hp=>hl.other p (by rw[h2];exact hp)) hl.priv)
    simpa using this
   cases at_ with
   |op d rop=>
    simp only[chkAt,bA,beq_iff_eq]at hat
    refine fin (.op d rop.core .nil) (by simp[chkOps,ho,hat.1,hat.2]) (by simp[dsts,At.writes]) ?_
    simp only[stepA]at h
    obtain⟨t0,H0,h0,hn0⟩:=K0a h
    obtain⟨t,H1,h,hn⟩:=q0r (K:=fun t H'=>some (e.setO d t,H')) ((hn0 _).trans h0)
    cases h
    simp only[runOps]
    rw[hn.all,hf.putO hw (fun q o hq=>hf.rooted (hn.root q o hq))]
   |lbox n p x=>
    simp only[chkAt,bA,beq_iff_eq]at hat
    refine fin (.lbox n p x .nil) (by simp[chkOps,ho,hat.1,hat.2]) (by simp[dsts,At.writes]) ?_
    simp only[runOps]
    rw[hf.purge (hw p (by simp[At.writes]))]
    exact h
   |lnew p z=>
    simp only[chkAt,bA,beq_iff_eq]at hat
    refine fin (.lnew p z .nil) (by simp[chkOps,ho,hat.1,hat.2]) (by simp[dsts,At.writes]) ?_
    simp only[runOps]
    rw[hf.purge (hw p (by simp[At.writes]))]
    exact h
   |st hp n b x=>
    simp only[chkAt,bA,beq_iff_eq]at hat
    exact fin (.st hp n b x .nil) (by simp[chkOps,ho,hat.1,hat.2]) (by simp[dsts,At.writes]) h
   |pick and c keep d ks=>
    simp only[chkAt,bA,beq_iff_eq]at hat
    obtain⟨hd,hpick⟩:=hat
    simp only[stepA]at h
    obtain⟨b,hb,h⟩:=oB.1 h
    obtain⟨q,hq,h⟩:=oB.1 h
    cases h
    unfold wpOp
    simp only[ho,hg.wanted rfl,iT]
    left
    have hbt:a.eval (.tmp c)= .bool b:=z0c he (x:= .t c) (y:= .tmp c) (by simp[chkX]) hb
    refine q0u (v:= .bool q) (w':=w) ?_ ?_
    ·unfold isPick at hpick
     split at hpick
     ·rename_i x A B hop
      simp only[bA]at hpick
      obtain⟨hcx,hpick⟩:=hpick
      have hx':x= .tmp c:=by cases x<;>simp[chkX]at hcx;rw[hcx]
      subst hx'
      cases and with
      |true=>
       simp only[iT,bA]at hpick
       have hB:=Q0z hpick.2
       subst hB
       cases b with
       |true=>rw[if_pos rfl]at hq;simp[execOp,hop,hbt,asBool,z0c he hpick.1 hq]
       |false=>
        simp only[bF,iF,oI]at hq;subst hq
        have hev:a.eval (.const (.bool false))= .bool false:=rfl
        simp[execOp,hop,hbt,asBool,hev]
      |false=>
       simp only[bF,iF,bA]at hpick
       have hA:=Z0h hpick.1
       subst hA
       cases b with
       |false=>rw[if_pos rfl]at hq;simp[execOp,hop,hbt,asBool,z0c he hpick.2 hq]
       |true=>
        simp only[Bool.true_eq_false,iF,oI]at hq;subst hq
        have hev:a.eval (.const (.bool true))= .bool true:=rfl
        simp[execOp,hop,hbt,asBool,hev]
     ·cases hpick
    ·rw[hd]
     have hf2:Free (e.set d (.val (.c (.bool q)))) ks:=Free.set (hf.sub fun p hp=>hw p (by simp[At.writes,hp])) (fun cs ht=>by cases ht) (fun q o ht=>by cases ht)
     refine hK _ w φ ψ ?_ hH hx (q0Z _ _ _) (fun p hp=>j0A (by simp[At.writes]at hp⊢;exact hp.1)) (fun b cs hb=>⟨hb.1,fun p c hp=>hb.2 p c ?_⟩)
     rotate_left
     ·rw[<-hf2.kill]at hp
      have:=w0O hp
      rw[<-hf.put (hw d (by simp[At.writes])) (fun q o ht=>by cases ht)]at this
      exact z0G (fun c hc=>by cases hc) this
     have:=he.put d (t:= .val (.c (.bool q))) (x:= .bool q) (.c (.bool q))
     rw[hf.put (hw d (by simp[At.writes])) (fun q o ht=>by cases ht)]at this
     rw[<-hf2.kill]
     exact this.kill ks
  cases g with
  |none=>
   cases hog:o.guard with
   |none=>exact on (by rw[hog];trivial) h
   |some y=>rw[hog]at hgm;simp[gmatch]at hgm
  |some y=>
   obtain⟨c,want⟩:=y
   cases hog:o.guard with
   |none=>rw[hog]at hgm;simp[gmatch]at hgm
   |some z=>
    obtain⟨j,want'⟩:=z
    rw[hog]at hgm
    simp only[gmatch,bA,beq_iff_eq]at hgm
    obtain⟨rfl,hj⟩:=hgm
    simp only[stepI]at h
    obtain⟨b,hb,h⟩:=oB.1 h
    have hts:=q1U he hb
    split at h
    ·rename_i hbw
     subst hbw
     exact on (by rw[hog];exact⟨c,hj,hts,by simpa using hown⟩) h
    ·rename_i hbw
     cases h
     have hnw:Region.wanted o (yielded ops a.tmps)=false:=by
      refine Q0A hog hj fun v hv=> ?_
      rw[hts]at hv;cases hv
      cases b with
      |none=>simp
      |some b=>simp;intro hb';exact hbw (by rw[hb'])
     unfold wpOp
     simp only[ho,hnw,bF,iF]
     have hod:o.dst=at_.dst:=by
      cases at_<;>simp[chkAt]at hat<;>simp[At.dst,hat.1]
     rw[hod]
     refine hK _ w φ ψ ?_ hH hx (q0Z _ _ _) (fun p hp=>j0A fun h=>hp (z0J h)) (fun b cs hb=>⟨hb.1,fun p c hp=>hb.2 p c ?_⟩)
     rotate_left
     ·cases hdst:at_.dst with
      |none=>rw[hdst]at hp;exact hp
      |some d=>
       rw[hdst]at hp
       have:(e.put d off)[p]? =some (.loc c):=by rw[hf.put (hw d (z0J (by simp[hdst]))) (fun q o ht=>by cases ht)];exact hp
       exact z0G (fun c hc=>by cases hc) this
     cases hdst:at_.dst with
     |none=>exact he
     |some d=>
      have:=he.put d (t:=off) (x:=undef) (.tuple .nil)
      rwa [hf.put (hw d (z0J (by simp[hdst]))) (fun q o ht=>by cases ht)]at this
 ·cases hc
end
theorem q1V{ops:Array Oper}{y:It}(ds:List Nat)(h:chkIt P ops y=true):chkIt P ops (y.rms ds)=true:=by
 obtain⟨i,g,a⟩:=y
 cases a with
 |op d rop=>
  unfold chkIt at h⊢
  simp only[It.rms,chkAt,k1s,At.writes]at h⊢
  exact h
 |_=>exact h
def bef(ops:Array Oper)(y k:Nat):Bool:=((Region.before ops).getD y 0).testBit k
def unl(listed:Array Bool)(it:It):Bool:= !listed.getD it.i true
variable{lim:Nat}{P:Program}
def allocOf(e:Env):ROp->Option (Nat×List C×Option Nat)
 | .box sz x=>(ev e x).bind fun v=>v.cells.bind fun xs=>if xs.length=sz then some (sz,xs,none)else none
 | .new z=>some (z.length,z,none)
 | .lit sz len z ps=>(fillC e z ps).bind fun cs=>some (sz,cs,some len)
 | .mkS sz z n=>(evI .i64 e n).bind fun n=>if 0<=n/\n<=2 ^ 36 then some (sz,(List.replicate n.toNat z).flatten,some n.toNat)else none
 |_=>none
def madeC(i:Nat):Option Nat->C
 |none=> .ptr i 0
 |some n=> .slice i 0 n
def madeV(b:Nat):Option Nat->Value
 |none=> .pointer (some ⟨b,0,none⟩)
 |some n=> .slice (some ⟨b,0,none⟩) n n
theorem j0H{lim:Nat}{call:CallT}{e:Env}{H:Heap}{o:ROp}{R:Type}{K:T->Heap->Option R}{r:R}(ha:o.allocs=true)(h:evalOp lim call e H o K=some r):
  ∃sz cs m,allocOf e o=some (sz,cs,m)/\K (.val (.c (madeC H.next m))) (H.alloc (.cells sz cs))=some r:=by
 cases o<;>simp[ROp.allocs]at ha<;>simp only[evalOp]at h
 ·obtain⟨v,hv,h⟩:=oB.1 h
  obtain⟨xs,hxs,h⟩:=oB.1 h
  split at h
  ·rename_i hl;exact⟨_,xs,none,by simp only[allocOf,hv,hxs,oS,if_pos hl],h⟩
  ·cases h
 ·exact⟨_,_,none,rfl,h⟩
 ·obtain⟨cs,hcs,h⟩:=oB.1 h
  exact⟨_,cs,some _,by simp only[allocOf,hcs,oS],h⟩
 ·obtain⟨n,hn,h⟩:=oB.1 h
  split at h
  ·rename_i hb;exact⟨_,_,some _,by simp only[allocOf,hn,oS,if_pos hb],h⟩
  ·cases h
theorem z0j{e e2:Env}{o:ROp}(h:Agree o.slots e e2):allocOf e2 o=allocOf e o:=by
 cases o<;>simp only[allocOf,ROp.slots]at h⊢
 ·rw[q0O h]
 ·rw[z0V h]
 ·rw[z0t h]
theorem K0f{base:Nat}{φ:Phi}{ψ:Nat->Nat}{e:Env}{a:Act}{w:World}{rop:ROp}{o:Oper}(hc:chkOp P rop o=true)(he:ERel lim base φ ψ e a.tmps w){H:Heap}(hH:HRel lim φ H w){sz:Nat}{cs:List C}{m:Option Nat}
  (h:allocOf e rop=some (sz,cs,m)):
  ∃A el,(execOp a.eval o).run P w= .ok (.value (madeV w.heap.size m)) (w.alloc (.cells A el))/\CsRel lim φ cs A.toList/\ ∀n,m=some n->n*sz<=cs.length:=by
 cases rop<;>simp only[allocOf]at h<;>try (cases h;done)
 case box sz' x=>
  obtain⟨v,hv,h⟩:=oB.1 h
  obtain⟨xs,hxs,h⟩:=oB.1 h
  split at h
  ·cases h
   simp only[chkOp]at hc
   split at hc
   ·rename_i t y ho
    exact⟨(a.eval y).cells,t,by simp[execOp,ho,Instr.box,newVar,newRow,madeV],(q0R he hc hv).cells hxs,fun n hn=>by cases hn⟩
   ·cases hc
  ·cases h
 case new z=>
  cases h
  simp only[chkOp]at hc
  split at hc
  ·rename_i t ho
   obtain⟨i,zv,hi,hz,hcs,hsz⟩:=j0l hc
   exact⟨zv.cells,t,by simp[execOp,ho,Instr.alloc,newVar,newRow,q0P hi hz,madeV],q0w hcs,fun n hn=>by cases hn⟩
  ·cases hc
 case lit sz' len z ps=>
  obtain⟨cs',hcs,h⟩:=oB.1 h
  cases h
  simp only[chkOp]at hc
  split at hc
  ·rename_i t n qs ho
   simp only[bA,beq_iff_eq]at hc
   obtain⟨rfl,hc⟩:=hc
   split at hc
   ·rename_i el hel
    have ht:=q0C hel
    split at hc
    ·rename_i j hj
     simp only[bA,beq_iff_eq,dE]at hc
     obtain⟨⟨⟨hjs,hle⟩,hz⟩,hp⟩:=hc
     split at hz
     ·rename_i zv hzv
      obtain⟨arr,ha,hr⟩:=k0n he _ ps qs.toList z _ hp (q0w hz) hcs
      refine⟨arr,el, ?_,hr,fun n' hn'=> ?_⟩
      ·have hq:(qs.map fun(i,x)=>(i,a.eval x)).toList=qs.toList.map fun(i,x)=>(i,a.eval x):=by simp
       have hnot: ¬(16777216<n*sz):=by omega
       subst hjs
       by_cases hz0:n*j.size=0
       ·simp only[hz0,iT,Array.range_zero',Array.map_empty]at ha
        simp[execOp,ho,Instr.buildSlice,run_underlying ht,q0A hj,hnot,hz0,hq,Array.range_zero',ha,newRow,madeV]
       ·simp only[hz0,iF]at ha
        simp[execOp,ho,Instr.buildSlice,run_underlying ht,q0A hj,q0P hj hzv,hnot,hz0,hq,ha,newRow,madeV]
      ·cases hn'
       have hl1:=hr.length
       have hl2:=z0v ps z hcs
       have hl3:=(q0w (lim:=lim) (φ:=φ) hz).length
       simp at hl1 hl3⊢;omega
     ·cases hz
    ·cases hc
   ·cases hc
  ·cases hc
 case mkS sz' z n=>
  obtain⟨m',hm,h⟩:=oB.1 h
  split at h
  ·rename_i hb
   cases h
   simp only[chkOp]at hc
   split at hc
   ·rename_i t l c ho
    simp only[bA]at hc
    obtain⟨⟨h1,h2⟩,hc⟩:=hc
    split at hc
    ·rename_i el hel
     simp only[bA]at hc
     obtain⟨⟨g1,g2⟩,g3⟩:=hc
     obtain⟨i,hi,hsz⟩:=w0H g1
     obtain⟨i',zv,hi',hzv,hzc,hzs⟩:=j0l g3
     rw[hi]at hi';cases hi'
     have hbb:0<i.bytes/\i.bytes<=2048:=by
      unfold bytesOk at g2;rw[hi]at g2;simpa using g2
     obtain⟨n0,rfl⟩:=iZ hb.1
     have hn':n0<=2 ^ 36:=by omega
     have hbn:i.bytes*n0<=2 ^ 47:=nT (Nat.mul_le_mul hbb.2 hn') (by decide)
     have hzr:CsRel lim φ z zv.cells.toList:=q0w hzc
     have hrel:CsRel lim φ (List.replicate n0 z).flatten (madeCells zv.cells (n0*i.size)).toList:=by
      have:=hzr.flatten n0
      rw[<-j0t zv.cells.toList default n0]at this
      have e:(madeCells zv.cells (n0*i.size)).toList=(List.range (n0*zv.cells.toList.length)).map fun j=>(zv.cells.toList[j % zv.cells.toList.length]?).getD default:=by
       simp only[madeCells,Array.toList_map,Array.toList_range,Array.length_toList,hzs]
       refine List.map_congr_left fun j _=> ?_
       rw[getElem!_def,Array.getElem?_toList]
       cases zv.cells[j % i.size]? <;>rfl
      rw[e];exact this
     have hlt:(i.bytes:Int)*(n0:Int)<=281474976710656:=by
      have:((i.bytes*n0:Nat):Int)<=2 ^ 47:=by exact_mod_cast hbn
      push_cast at this
      omega
     have hs:(madeCells zv.cells (n0*i.size)).size=n0*i.size:=size_madeCells _ _
     refine⟨madeCells zv.cells (n0*i.size),el, ?_,by simpa using hrel,fun n' hn'=> ?_⟩
     ·have:=run_make (P:=P) w t el i zv (q0C hel) hi hzv .i64 .i64 n0 n0 hb.1 (Int.le_refl _) hlt (by omega)
      simp[execOp,ho,q0H he h1 hm,q0H he h2 hm,this,madeV]
     ·cases hn'
      have hl:=hrel.length
      simp only[Array.length_toList,hs]at hl
      simp only[iN]
      rw[hl,hsz];exact nR _
    ·cases hc
   ·cases hc
  ·cases h
theorem adopt{φ:Phi}{H:Heap}{w:World}{b:Nat}{cs:List C}(h:HRel lim φ H w)(hb:LocRel lim φ w b cs)(sz:Nat):
  ∃n,cs.length=n/\HRel lim (φ.add H.next ⟨b,0,n,sz⟩) (H.alloc (.cells sz cs)) w:=by
 obtain⟨⟨A,el,hA,hr⟩,hfree⟩:=hb
 have hlen:=hr.length
 simp only[Array.length_toList]at hlen
 have hlt:=(Array.getElem?_eq_some_iff.1 hA).1
 have hmono:=Phi.add_mono (φ:=φ) ⟨b,0,cs.length,sz⟩ (h.dom H.next (nR _))
 have hne: ∀i c,H.get i=some c-> ∀p,φ i=some p->i≠H.next:=fun i c _ p hp e=>by rw[e,h.dom _ (nR _)]at hp;cases hp
 refine⟨cs.length,rfl, ?_, ?_, ?_, ?_, ?_, ?_⟩
 ·show lim<=H.next+1;have:=h.low;omega
 ·intro i hi
  have:H.next+1<=i:=hi
  simp only[Phi.add];rw[if_neg (by omega)];exact h.dom i (by omega)
 ·intro i p hp
  by_cases e:i=H.next
  ·simp only[Phi.add,e,iT,oI]at hp;subst hp;exact hlt
  ·simp only[Phi.add,e,iF]at hp;exact h.bound i p hp
 ·intro i sz' c hg
  by_cases e:i=H.next
  ·subst e
   simp only[Heap.alloc,iT,oI,Obj.cells.injEq]at hg
   obtain⟨rfl,rfl⟩:=hg
   refine⟨_,A,el,(0,0),Phi.add_same _ _ _,hA,hlen.symm,by simp,fun _=>⟨rfl,rfl⟩,fun j x hj=> ?_⟩
   obtain⟨v,hv,hx⟩:=hr.get hj
   exact⟨v,by simpa using hv,hx.mono hmono⟩
  ·simp only[Heap.alloc,e,iF]at hg
   obtain⟨p,A',el',fz,h1,h2,h3,h4,h5,h6⟩:=h.cells i sz' c hg
   exact⟨p,A',el',fz,hmono _ _ h1,h2,h3,h4,h5,fun j x hj=>by obtain⟨v,hv,hx⟩:=h6 j x hj;exact⟨v,hv,hx.mono hmono⟩⟩
 ·intro i es hg
  by_cases e:i=H.next
  ·subst e
   simp only[Heap.alloc,iT,oI]at hg;cases hg
  ·simp only[Heap.alloc,e,iF]at hg
   obtain⟨p,ES,clock,h1,h2,h3,h4⟩:=h.maps i es hg
   exact⟨p,ES,clock,hmono _ _ h1,h2,h3.mono hmono,h4⟩
 ·intro i j p q hlj hi hj hp hq e
  by_cases e1:i=H.next<;>by_cases e2:j=H.next
  ·rw[e1,e2]
  ·simp only[Phi.add,e1,e2,iT,iF,oI]at hp hq;subst hp
   exact absurd e.symm (hfree j q hq)
  ·simp only[Phi.add,e1,e2,iT,iF,oI]at hp hq;subst hq
   exact absurd e (hfree i p hp)
  ·simp only[Phi.add,e1,e2,iF]at hp hq
   simp only[Heap.alloc,e1,e2,iF]at hi hj
   exact h.inj i j p q hlj hi hj hp hq e
theorem Ext.adopt{φ0 φ:Phi}{w0 w:World}{H:Heap}{b n sz:Nat}(h:Ext lim φ0 w0 φ w)(hH:HRel lim φ H w)(hb:w0.heap.size<=b):Ext lim φ0 w0 (φ.add H.next ⟨b,0,n,sz⟩) w:=by
 have hmono:=Phi.add_mono (φ:=φ) ⟨b,0,n,sz⟩ (hH.dom H.next (nR _))
 refine⟨fun i p hp=>hmono _ _ (h.mono i p hp),fun i p hp=> ?_,h.size,h.same,h.os,h.tape,h.output,h.froz⟩
 by_cases e:i=H.next
 ·simp only[Phi.add,e,iT,oI]at hp;subst hp
  exact .inr ⟨by rw[e];exact hH.low, .inl hb⟩
 ·simp only[Phi.add,e,iF]at hp;exact h.fresh i p hp
theorem LocRel.adopt{φ:Phi}{w:World}{H:Heap}{b b' n sz:Nat}{cs:List C}(hH:HRel lim φ H w)(h:LocRel lim φ w b' cs)(hne:b'≠b):LocRel lim (φ.add H.next ⟨b,0,n,sz⟩) w b' cs:=by
 have hmono:=Phi.add_mono (φ:=φ) ⟨b,0,n,sz⟩ (hH.dom H.next (nR _))
 obtain⟨⟨A,el,h1,h2⟩,h3⟩:=h
 refine⟨⟨A,el,h1,h2.mono hmono⟩,fun j p hp=> ?_⟩
 by_cases e:j=H.next
 ·simp only[Phi.add,e,iT,oI]at hp;subst hp;exact fun e'=>hne e'.symm
 ·simp only[Phi.add,e,iF]at hp;exact h3 j p hp
theorem ERel.adopt{base:Nat}{φ:Phi}{ψ:Nat->Nat}{e:Env}{ts:Array Value}{w:World}{H:Heap}{b n sz:Nat}(h:ERel lim base φ ψ e ts w)(hH:HRel lim φ H w)(hne: ∀(p:Nat) cs,e[p]? =some (.loc cs)->ψ p≠b):
  ERel lim base (φ.add H.next ⟨b,0,n,sz⟩) ψ e ts w:=by
 have hmono:=Phi.add_mono (φ:=φ) ⟨b,0,n,sz⟩ (hH.dom H.next (nR _))
 refine⟨h.len,fun p t ht=> ?_,h.inj,h.low⟩
 obtain⟨x,hx,hr⟩:=h.tmp p t ht
 refine⟨x,hx, ?_⟩
 cases t with
 |poison=>trivial
 |val v=>exact hr.mono hmono
 |loc cs=>exact⟨hr.1,hr.2.adopt hH (hne p cs ht)⟩
 |laddr q o=>exact hr
variable{lim:Nat}{P:Program}
theorem Agree.trans{S:List Nat}{a b c:Env}(h:Agree S a b)(k:Agree S b c):Agree S a c:=fun p hp=>by
 obtain⟨h1,h2⟩:=h p hp
 obtain⟨k1,k2⟩:=k p hp
 exact⟨k1.trans h1,fun q o hq=>(k2 q o (h1.trans hq)).trans (h2 q o hq)⟩
theorem Agree.refl(S:List Nat)(e:Env):Agree S e e:=fun p hp=>⟨rfl,fun _ _ _=>rfl⟩
section
variable{call:CallT}
theorem q1W{z:It}{e e1:Env}{H H1:Heap}{S:List Nat}(h:stepI lim call z e H=some (e1,H1))(hf:Free e S){p:Nat}(hp:p∈S)(hw:p∉z.a.writes):e1[p]? =e[p]? :=by
 by_cases ht:z.a.tame=true
 ·obtain⟨f,rfl,hd⟩:=j0k ht h
  exact J0s fun h=>hw (hd.slots p h)
 ·obtain⟨i,g,a⟩:=z
  cases a with
  |st hp' n b x=>
   have stp: ∀{e1 H1},stepA lim call (.st hp' n b x) e H=some (e1,H1)->e1[p]? =e[p]? :=by
    intro e1 H1 h
    simp only[stepA]at h
    obtain⟨v,hv,h⟩:=oB.1 h
    obtain⟨xs,hxs,h⟩:=oB.1 h
    split at h
    ·cases h
    ·rcases q0o h with⟨q,o,h,hroot,hn⟩ |⟨j,o,h,hn⟩
     ·split at h
      ·cases h
      ·obtain⟨cs,hcs,h⟩:=oB.1 h
       split at h
       ·cases h
        have hq:=hf.rooted hroot
        rw[List.getElem?_set_ne (fun e'=>hq (by rw[e'];exact hp))]
       ·cases h
     ·split at h
      ·cases h
      obtain⟨H1,hst,h⟩:=oB.1 h
      cases h;rfl
   cases g with
   |none=>exact stp h
   |some y=>
    obtain⟨c,want⟩:=y
    simp only[stepI]at h
    obtain⟨b,hb,h⟩:=oB.1 h
    split at h
    ·exact stp h
    ·cases h;rfl
  |_=>simp[At.tame]at ht
theorem Q0E{z:It}{e e1:Env}{H H1:Heap}{S W':List Nat}(ht:z.a.tame=true)(h:stepI lim call z e H=some (e1,H1))(hf:Free e W')(hw: ∀p∈z.a.writes,p∈W')(hd: ∀p∈z.a.writes,p∉S):Agree S e e1:=by
 obtain⟨f,rfl,hf2⟩:=j0k ht h
 exact z0I hf (fun p hp=>hw p (hf2.slots p hp)) (fun p hp hpf=>hd p (hf2.slots p hpf) hp)
theorem Q0F{S:List Nat}{rest:List It}{r:Env×Heap}: ∀{xs:List It} {e:Env} {H:Heap},(∀x∈xs,x.a.tame=true/\ ∀p∈x.a.writes,p∉S)->xs.Pairwise (fun a b=>apartL a b=true)->(∀x∈xs,∀z∈rest,apartL x z=true)->
  Free e (W (xs++rest))->flat lim call (xs++rest) e H=some r-> ∃e1 H1,flat lim call rest e1 H1=some r/\Agree S e e1
 | [],e,H,_,_,_,_,h=>⟨e,H,h, .refl _ _⟩
 |x::xs,e,H,hs,hp,hz,hf,h=>by
  simp only[List.cons_append,flat]at h
  obtain⟨⟨e1,H1⟩,h1,h2⟩:=oB.1 h
  rw[List.pairwise_cons]at hp
  have hlets: ∀p∈x.a.lets,p∉W (xs++rest):=by
   intro p hpx hpw
   simp only[W,List.mem_flatMap]at hpw
   obtain⟨z,hz1,hz2⟩:=hpw
   have hap:apartL x z=true:=by
    rcases mA.1 hz1 with h |h
    ·exact hp.1 z h
    ·exact hz x (by simp) z h
   simp only[apartL,bA,List.all_eq_true,bN,List.contains_eq_mem,dN]at hap
   exact hap.1 p hpx hz2
  have hf1:Free e1 (W (xs++rest)):=k0w h1 hf hlets fun p hp=>by simp[W]at hp⊢;exact .inr hp
  obtain⟨e2,H2,h3,h4⟩:=Q0F (fun y hy=>hs y (by simp[hy])) hp.2 (fun y hy=>hz y (by simp[hy])) hf1 h2
  exact⟨e2,H2,h3,(Q0E (hs x (by simp)).1 h1 hf (fun p hp=>by simp[W,hp]) (hs x (by simp)).2).trans h4⟩
end
def At.allocs:At->Bool
 | .op (some _) o=>o.allocs
 |_=>false
def pairOK(x y:It):Bool:=
 swapOK x y||swapSt x y||swapC x y||(y.a.allocs&&y.g.isNone&&x.a.tame&&x.a.writes.all (fun p=> !y.reads.contains p&& !y.a.writes.contains p)&&y.a.writes.all (fun p=> !x.reads.contains p))||(!x.a.allocs&& !y.a.allocs)
def chkCross(ops:Array Oper)(y:It):List It->Bool
 | []=>true
 |x::xs=>(bef ops y.i x.i||swapOK x y||swapSt x y||swapC x y||(y.a.allocs&&y.g.isNone)||(!x.a.allocs&&swapOK x (y.rms (W (xs.filter fun z=>bef ops z.i x.i)))))&&chkCross ops y xs
def onceC(y:It):List It->Bool
 | []=>true
 |x::xs=>(!swapC x y||xs.all (fun z=>x.a.writes.all (fun p=> !z.a.writes.contains p)))&&onceC y xs
theorem X0d{y:It}: ∀{xs:List It},onceC y xs=true->OnceC y xs
 | [],_=> .nil
 |x::xs,h=>by
  simp only[onceC,bA]at h
  refine List.pairwise_cons.2 ⟨fun z hz hc p hp=> ?_,X0d h.2⟩
  have:=h.1
  simp only[hc,Bool.not_true,Bool.false_or,List.all_eq_true,bN,List.contains_eq_mem,dN]at this
  exact this z hz p hp
def chkPre2(ops:Array Oper):List It->List It->Bool
 |_,[]=>true
 |pre,y::ys=>(match ops[y.i]? with
  |some o=>o.after.toList.all (fun ed=> !Region.binds .any ed||pre.any (fun x=>x.i==ed.on))&&
   (List.range ops.size).all (fun k=> !bef ops y.i k||o.after.toList.any (fun ed=>Region.binds .any ed&&(k==ed.on||bef ops ed.on k)))
  |none=>false)&&pre.all (fun x=>(bef ops y.i x.i||pairOK x y)&&apartL x y&& !(x.i==y.i)&&
   (!x.a.allocs||(x.a.writes.all (fun p=> !y.a.writes.contains p)))&&(!y.a.allocs||(y.a.writes.all (fun p=> !x.a.writes.contains p))))&&onceC y pre&&chkCross ops y pre&&
  chkPre2 ops (pre++[y]) ys
theorem k0x{x y:It}{d:Option Nat}{o:ROp}(h:swapSt x y=true)(hy:y.a= .op d o):False:=by
 unfold swapSt at h
 rw[hy]at h
 split at h
 ·rename_i h4;cases h4
 ·cases h
theorem q1X{o:ROp}(ha:o.allocs=true)(d p:Nat)(ag:Bool)(ks:List K0):o.has d p ag ks=false:=by
 cases o<;>first |rfl |simp[ROp.allocs]at ha
theorem Y0b{o:ROp}(ha:o.allocs=true):rdOf o=none:=by
 cases o<;>first |rfl |simp[ROp.allocs]at ha
theorem w0v{x y:It}{d:Option Nat}{o:ROp}(h:swapC x y=true)(hy:y.a= .op d o)(ha:o.allocs=true):False:=by
 unfold swapC at h
 rw[hy]at h
 split at h
 ·rename_i h4
  simp only[At.op.injEq]at h4
  obtain⟨rfl,rfl⟩:=h4
  split at h
  ·rw[q1X ha]at h;simp at h
  ·cases h
 ·cases h
theorem K0g{x y:It}{d:Option Nat}{o:ROp}(h:swapC x y=true)(hx:x.a= .op d o)(ha:o.allocs=true):False:=by
 unfold swapC at h
 rw[hx]at h
 split at h
 ·rename_i h2 _
  simp only[At.op.injEq]at h2
  obtain⟨rfl,rfl⟩:=h2
  rw[Y0b ha]at h;simp at h
 ·cases h
theorem Y0c{o:ROp}(ha:o.allocs=true):o.core=o:=by cases o<;>first |rfl |simp[ROp.allocs]at ha
theorem Z0s{x y:It}{d:Option Nat}{o:ROp}(h:swapSt x y=true)(hx:x.a= .op d o)(ha:o.allocs=true):False:=by
 unfold swapSt at h
 rw[hx]at h
 split at h
 ·rename_i h2 _ _;cases h2;simp[ha]at h
 ·cases h
def chkWait(ops:Array Oper):List It->List It->Bool
 |_,[]=>true
 |pre,x::xs=>(!x.a.allocs||x.g.isSome||xs.all (fun y=> !bef ops y.i x.i||pre.all (fun u=>bef ops y.i u.i||u.a.quiet)))&&chkWait ops (pre++[x]) xs
def undone(done:Nat->Bool)(it:It):Bool:= !done it.i
def Fr(its:List It)(listed:Array Bool)(done:Nat->Bool):Prop:= ∀us y vs,its=us++y::vs->done y.i=false->listed.getD y.i false=true-> ∃x∈us,done x.i=false/\x.a.quiet=false
structure Pend (lim:Nat) (w0:World) (φ:Phi) (ψ:Nat->Nat) (w:World) (e:Env) (a:Act) (b:Nat) (y:It):Prop where
 ex: ∃d o sz cs m,y.g=none/\y.a= .op (some d) o/\o.allocs=true/\allocOf e o=some (sz,cs,m)/\a.tmps[d]? =some (madeV b m)/\Priv lim φ w e ψ b cs/\(∀n,m=some n->n*sz<=cs.length)
 low:w0.heap.size<=b
structure Inv (lim:Nat) (call:CallT) (ops:Array Oper) (its:List It) (φ0:Phi) (w0:World) (eF:Env) (HF:Heap) (listed:Array Bool) (done:Nat->Bool) (β:Nat->Nat) (a:Act) (w:World) (e:Env) (H:Heap) (φ:Phi) (ψ:Nat->Nat):Prop where
 did: ∀y∈its,done y.i=true->listed.getD y.i false=true
 pend: ∀y∈its,done y.i=false->listed.getD y.i false=true->Pend lim w0 φ ψ w e a (β y.i) y/\ ∀us vs,its=us++y::vs-> ∀x∈us,done x.i=false->bef ops y.i x.i=false
 inj: ∀y∈its,∀z∈its,done y.i=false->done z.i=false->listed.getD y.i false=true->listed.getD z.i false=true->β y.i=β z.i->y.i=z.i
 run:flat lim call (its.filter (undone done)) e H=some (eF,HF)
 free:Free e (W (its.filter (undone done)))
 zero: ∀y∈its,done y.i=false-> ∀d o,y.a= .op (some d) o->o.allocs=true-> ∀t,e[d]? =some t->t= .poison
 env:ERel lim w0.heap.size φ ψ e a.tmps w
 heap:HRel lim φ H w
 ext:Ext lim φ0 w0 φ w
theorem k0W{ops:Array Oper}: ∀{its pre:List It},chkPre2 ops pre its=true-> ∀{us vs:List It} {y:It},its=us++y::vs->
  (∃o,ops[y.i]? =some o/\(∀ed∈o.after,Region.binds .any ed=true-> ∃x∈pre++us,x.i=ed.on)/\(∀k,k<ops.size->bef ops y.i k=true-> ∃ed∈o.after,Region.binds .any ed=true/\(k=ed.on\/bef ops ed.on k=true)))/\
  ∀x∈pre++us,(bef ops y.i x.i=true\/pairOK x y=true)/\apartL x y=true/\x.i≠y.i/\(x.a.allocs=true-> ∀p∈x.a.writes,p∉y.a.writes)/\(y.a.allocs=true-> ∀p∈y.a.writes,p∉x.a.writes):=by
 intro its
 induction its with
 |nil=>intro pre h us vs y he;cases us<;>simp at he
 |cons z zs ih=>
  intro pre h us vs y he
  simp only[chkPre2,bA]at h
  obtain⟨⟨⟨⟨h1,h2⟩,_⟩,_⟩,h3⟩:=h
  cases us with
  |nil=>
   simp only[List.nil_append,List.cons.injEq]at he
   obtain⟨rfl,rfl⟩:=he
   simp only[List.append_nil]
   refine⟨?_,fun x hx=> ?_⟩
   ·split at h1
    ·rename_i o ho
     simp only[bA,List.all_eq_true,Bool.or_eq_true,bN,List.any_eq_true,beq_iff_eq,List.mem_range]at h1
     refine⟨o,ho,fun ed hed hb=> ?_,fun k hk hb=> ?_⟩
     ·rcases h1.1 ed (by simpa using hed)with h |h
      ·rw[hb]at h;cases h
      ·exact h
     ·rcases h1.2 k hk with h |⟨ed,hed,h⟩
      ·rw[hb]at h;cases h
      ·exact⟨ed,by simpa using hed,h⟩
    ·cases h1
   ·have:=List.all_eq_true.1 h2 x hx
    simp only[bA,Bool.or_eq_true,bN,beq_eq_false_iff_ne,List.all_eq_true,List.contains_eq_mem,dN]at this
    obtain⟨⟨⟨⟨g1,g2⟩,g3⟩,g4⟩,g5⟩:=this
    exact⟨g1,g2,g3,fun ha=>(g4.resolve_left (by rw[ha];simp)),fun ha=>(g5.resolve_left (by rw[ha];simp))⟩
  |cons u us=>
   simp only[List.cons_append,List.cons.injEq]at he
   obtain⟨rfl,rfl⟩:=he
   have:=ih h3 (us:=us) (vs:=vs) (y:=y) rfl
   simpa using this
theorem Z0t{ops:Array Oper}: ∀{its pre:List It},chkPre2 ops pre its=true-> ∀{us vs:List It} {y:It},its=us++y::vs->OnceC y (pre++us):=by
 intro its
 induction its with
 |nil=>intro pre h us vs y he;cases us<;>simp at he
 |cons z zs ih=>
  intro pre h us vs y he
  simp only[chkPre2,bA]at h
  obtain⟨⟨⟨_,h2⟩,_⟩,h3⟩:=h
  cases us with
  |nil=>
   simp only[List.nil_append,List.cons.injEq]at he
   obtain⟨rfl,rfl⟩:=he
   simpa using X0d h2
  |cons u us=>
   simp only[List.cons_append,List.cons.injEq]at he
   obtain⟨rfl,rfl⟩:=he
   have:=ih h3 (us:=us) (vs:=vs) (y:=y) rfl
   simpa using this
theorem J0v{ops:Array Oper}: ∀{its pre:List It},chkPre2 ops pre its=true-> ∀{us vs:List It} {y:It},its=us++y::vs->chkCross ops y (pre++us)=true:=by
 intro its
 induction its with
 |nil=>intro pre h us vs y he;cases us<;>simp at he
 |cons z zs ih=>
  intro pre h us vs y he
  simp only[chkPre2,bA]at h
  obtain⟨⟨_,h2⟩,h3⟩:=h
  cases us with
  |nil=>
   simp only[List.nil_append,List.cons.injEq]at he
   obtain⟨rfl,rfl⟩:=he
   simpa using h2
  |cons u us=>
   simp only[List.cons_append,List.cons.injEq]at he
   obtain⟨rfl,rfl⟩:=he
   have:=ih h3 (us:=us) (vs:=vs) (y:=y) rfl
   simpa using this
theorem X0e{ops:Array Oper}{y:It}{done:Nat->Bool}(hnp: ¬(y.a.allocs=true/\y.g=none)): ∀{us:List It},chkCross ops y us=true->(∀x∈us,done x.i=false->bef ops y.i x.i=false)->
  (∀x∈us,done x.i=false->x.a.allocs=false-> ∀z∈us,bef ops z.i x.i=true->done z.i=false)->Cross y (us.filter (undone done))
 | [],_,_,_=>trivial
 |x::us,h,hb,hc=>by
  simp only[chkCross,bA]at h
  have ih:=X0e hnp h.2 (fun z hz=>hb z (by simp[hz])) (fun z hz hd ha u hu=>hc z (by simp[hz]) hd ha u (by simp[hu]))
  by_cases hd:done x.i=true
  ·rw[List.filter_cons,if_neg (by simp[undone,hd])];exact ih
  ·simp only[Bool.not_eq_true]at hd
   rw[List.filter_cons,if_pos (by simp[undone,hd])]
   refine⟨?_,ih⟩
   have h1:=h.1
   rw[hb x (by simp) hd]at h1
   simp only[Bool.false_or,Bool.or_eq_true,bA,bN]at h1
   rcases h1 with(((h1 |h1) |h1) |h1) |h1
   ·exact .inl ⟨[],fun p hp=>(by cases hp),by rw[It.rms_nil];exact h1⟩
   ·exact .inr (.inl h1)
   ·exact .inr (.inr h1)
   ·exact absurd ⟨h1.1,by simpa using h1.2⟩ hnp
   ·refine .inl ⟨_,fun p hp=> ?_,h1.2⟩
    simp only[W,List.mem_flatMap,List.mem_filter]at hp⊢
    obtain⟨z,⟨hz1,hz2⟩,hz3⟩:=hp
    exact⟨z,⟨hz1,by simp[undone,hc x (by simp) hd h1.1 z (by simp[hz1]) hz2]⟩,hz3⟩
theorem Z0u{its:List It}{p:It->Bool}{y:It}{ys:List It}(h:its.filter p=y::ys): ∃us vs,its=us++y::vs/\(∀x∈us,p x=false)/\p y=true/\ys=vs.filter p:=by
 obtain⟨us,vs,h1,h2,h3,h4⟩:=List.filter_eq_cons_iff.1 h
 exact⟨us,vs,h1,fun x hx=>by simpa using h2 x hx,h3,h4.symm⟩
def also(done:Nat->Bool)(i:Nat):Nat->Bool:=fun j=>done j||j==i
theorem z0k{its:List It}{done:Nat->Bool}{us vs:List It}{y:It}(he:its=us++y::vs)(hne: ∀x∈us++vs,x.i≠y.i)(hy:done y.i=false):
  its.filter (undone done)=us.filter (undone done)++y::vs.filter (undone done)/\its.filter (undone (also done y.i))=us.filter (undone done)++vs.filter (undone done):=by
 have hs: ∀x∈us++vs,undone (also done y.i) x=undone done x:=fun x hx=>by
  have:=hne x hx
  simp[undone,also,this]
 constructor
 ·rw[he,List.filter_append,List.filter_cons,if_pos (by simp[undone,hy])]
 ·rw[he,List.filter_append,List.filter_cons,if_neg (by simp[undone,also])]
  congr 1
  ·exact List.filter_congr fun x hx=>hs x (by simp[hx])
  ·exact List.filter_congr fun x hx=>hs x (by simp[hx])
theorem Z0v{ops:Array Oper}{its:List It}(h:chkPre2 ops [] its=true):its.Pairwise (fun x y=>apartL x y=true/\x.i≠y.i/\(bef ops y.i x.i=true\/pairOK x y=true)/\(x.a.allocs=true-> ∀p∈x.a.writes,p∉y.a.writes)/\(y.a.allocs=true-> ∀p∈y.a.writes,p∉x.a.writes)):=by
 have: ∀(zs pre:List It),its=pre++zs->zs.Pairwise (fun x y=>apartL x y=true/\x.i≠y.i/\(bef ops y.i x.i=true\/pairOK x y=true)/\(x.a.allocs=true-> ∀p∈x.a.writes,p∉y.a.writes)/\(y.a.allocs=true-> ∀p∈y.a.writes,p∉x.a.writes))/\
   ∀x∈pre,∀y∈zs,apartL x y=true/\x.i≠y.i/\(bef ops y.i x.i=true\/pairOK x y=true)/\(x.a.allocs=true-> ∀p∈x.a.writes,p∉y.a.writes)/\(y.a.allocs=true-> ∀p∈y.a.writes,p∉x.a.writes):=by
  intro zs
  induction zs with
  |nil=>intro pre _;exact⟨.nil,fun x _ z hz=>by simp at hz⟩
  |cons z zs ih=>
   intro pre he
   have h1:=k0W h (us:=pre) (vs:=zs) (y:=z) he
   obtain⟨h2,h3⟩:=ih (pre++[z]) (by simp[he])
   refine⟨List.pairwise_cons.2 ⟨fun b hb=>h3 z (by simp) b hb,h2⟩,fun x hx b hb=> ?_⟩
   rcases mC.1 hb with rfl |hb
   ·have:=h1.2 x (by simpa using hx)
    exact⟨this.2.1,this.2.2.1,this.1,this.2.2.2.1,this.2.2.2.2⟩
   ·exact h3 x (by simp[hx]) b hb
 exact(this its [] rfl).1
section
variable{call:CallT}{ops:Array Oper}{its:List It}{φ0:Phi}{w0:World}{eF:Env}{HF:Heap}{listed:Array Bool}{done:Nat->Bool}{β:Nat->Nat}{a:Act}{w:World}{e:Env}{H:Heap}{φ:Phi}{ψ:Nat->Nat}
theorem Q1S{φ:Phi}{i b n sz:Nat}{m:Option Nat}(hp:φ i=some ⟨b,0,n,sz⟩)(hl: ∀k,m=some k->k*sz<=n):VRel lim φ (.c (madeC i m)) (madeV b m):=by
 cases m with
 |none=>exact .c (by simpa[madeC,madeV]using CRel.ptr (lim:=lim) (o:=0) hp)
 |some k=>exact .c (.slice hp (nR _) (.inr rfl) (fun _=> .inr (by simpa using hl k rfl)))
theorem Y0d{R:Type}{call:CallT}{e:Env}{H:Heap}{o:ROp}{K:T->Heap->Option R}{r:R}(hq:o.quiet=true)(hw:H.get H.next=none)(hl:lim<=H.next)(ob:Obj)(h:evalOp lim call e H o K=some r):
  ∃t,K t H=some r/\ ∀{R2:Type} (K2:T->Heap->Option R2),evalOp lim call e H o K2=K2 t H/\evalOp lim call e (H.alloc ob) o K2=K2 t (H.alloc ob):=by
 obtain⟨t,H2,h9,hn⟩:=q0r h
 obtain⟨H',hH'⟩: ∃H',H'=H:=⟨_,rfl⟩
 have:=hn.quiet hq
 rw[this]at h9 hn
 clear this
 rw[<-hH']at h9 hn hw hl⊢
 clear hH' h
 refine⟨t,h9,fun{R2} K2=>⟨hn.all K2, ?_⟩⟩
 have hget: ∀{i:Nat} {ob':Obj},H'.get i=some ob'->(H'.alloc ob).get i=some ob':=fun{i ob'} hi=>by
  simp only[Heap.alloc]
  rw[if_neg (fun e'=>by rw[e',hw]at hi;cases hi)];exact hi
 have hld: ∀{i o:Nat} {x:C},H'.ld i o=some x->(H'.alloc ob).ld i o=some x:=fun{i o x} hx=>by
  unfold Heap.ld at hx⊢
  split at hx
  ·rename_i z c hg;rw[hget hg];exact hx
  ·cases hx
 by_cases hne:o.neutral=true
 ·exact hn.neutral hne _ K2
 have h0:=hn.all (R2:=T×Heap) fun t H=>some (t,H)
 cases o<;>first |(exfalso;revert hq hne;simp[ROp.quiet,ROp.neutral];done) |skip
 case ld kd a=>
  simp only[evalOp]at h0⊢
  rcases q0o h0 with⟨p,q,h,hr,hn'⟩ |⟨i,q,h,hn'⟩
  ·cases h
  ·rw[hn']
   obtain⟨x,hx,h⟩:=oB.1 h
   obtain⟨y,h,hn2⟩:=j0b h
   cases h
   rw[hld hx,oS,hn2]
 case lds kds a=>
  simp only[evalOp]at h0⊢
  rcases q0o h0 with⟨p,q,h,hr,hn'⟩ |⟨i,q,h,hn'⟩
  ·cases h
  ·rw[hn']
   have key: ∀(ks:List K0) (q:Nat) {R3:Type} (K3:List C->Option R3) (r3:R3),H'.lds i q ks K3=some r3-> ∃ys,K3 ys=some r3/\ ∀{R4:Type} (K4:List C->Option R4),(H'.alloc ob).lds i q ks K4=K4 ys:=by
    intro ks
    induction ks with
    |nil=>intro q R3 K3 r3 h;exact⟨[],h,fun _=>rfl⟩
    |cons k ks ih=>
     intro q R3 K3 r3 h
     simp only[Heap.lds]at h⊢
     obtain⟨x,hx,h⟩:=oB.1 h
     obtain⟨y,h,hn3⟩:=j0b h
     obtain⟨ys,h,hn4⟩:=ih _ _ _ h
     exact⟨_,h,fun K4=>by rw[hld hx,oS,hn3,hn4]⟩
   obtain⟨ys,h,hn4⟩:=key _ _ _ _ h
   cases h
   exact hn4 _
 case ldN n a=>
  simp only[evalOp]at h0⊢
  rcases q0o h0 with⟨p,q,h,hr,hn'⟩ |⟨i,q,h,hn'⟩
  ·rw[hn']
   obtain⟨cs,hcs,h⟩:=oB.1 h
   rw[hcs,oS]
   split at h
   ·rename_i hc;rw[if_pos hc];cases h;rfl
   ·cases h
  ·rw[hn']
   obtain⟨x,hx,h⟩:=oB.1 h
   cases h
   have:(H'.alloc ob).ldN i q n=some x:=by
    unfold Heap.ldN at hx⊢
    split at hx
    ·rename_i z c hg;rw[hget hg];exact hx
    ·cases hx
   rw[this];rfl
 case sub sz x lo hi=>
  simp only[evalOp]at h0⊢
  obtain⟨x1,h1,h0⟩:=oB.1 h0
  obtain⟨x2,h2,h0⟩:=oB.1 h0
  obtain⟨x3,h3,h0⟩:=oB.1 h0
  obtain⟨x4,h4,h0⟩:=oB.1 h0
  cases h0
  rw[h1,oS,h2,oS,h3,oS]
  have:(H'.alloc ob).sub lim sz x1 x2 x3=some x4:=by
   cases x1 with
   |slice id off n=>
    simp only[Heap.sub]at h4⊢
    by_cases hb:0<x2/\0<n/\lim<=id/\H'.szBad id sz=true
    ·rw[if_pos hb]at h4;cases h4
    ·rw[if_neg hb]at h4
     rw[if_neg]
     ·exact h4
     ·rintro⟨ha0,hb0,hb1,hb2⟩
      refine hb ⟨ha0,hb0,hb1, ?_⟩
      unfold Heap.szBad at hb2⊢
      cases hg:H'.get id with
      |none=>rfl
      |some ob'=>rw[hget hg]at hb2;exact hb2
   |_=>exact h4
  rw[this];rfl
 case subM sz x lo hi mx=>
  simp only[evalOp]at h0⊢
  obtain⟨x1,h1,h0⟩:=oB.1 h0
  obtain⟨x2,h2,h0⟩:=oB.1 h0
  obtain⟨x3,h3,h0⟩:=oB.1 h0
  obtain⟨x5,h5,h0⟩:=oB.1 h0
  obtain⟨x4,h4,h0⟩:=oB.1 h0
  cases h0
  rw[h1,oS,h2,oS,h3,oS,h5,oS]
  have:(H'.alloc ob).subM lim sz x1 x2 x3 x5=some x4:=by
   obtain⟨n0,k1,k2⟩:=oB.1 h4
   refine oB.2 ⟨n0,k1, ?_⟩
   split at k2
   ·rename_i hc
    rw[if_pos hc]
    cases x1 with
    |slice id off n=>
     simp only[Heap.sub]at k2⊢
     by_cases hb:0<x2/\0<n/\lim<=id/\H'.szBad id sz=true
     ·rw[if_pos hb]at k2;cases k2
     ·rw[if_neg hb]at k2
      rw[if_neg]
      ·exact k2
      ·rintro⟨ha0,hb0,hb1,hb2⟩
       refine hb ⟨ha0,hb0,hb1, ?_⟩
       unfold Heap.szBad at hb2⊢
       cases hg:H'.get id with
       |none=>rfl
       |some ob'=>rw[hget hg]at hb2;exact hb2
    |_=>exact k2
   ·cases k2
  rw[this];rfl
 case lenM x=>
  simp only[evalOp]at h0⊢
  obtain⟨x1,h1,h0⟩:=oB.1 h0
  obtain⟨x2,h2,h0⟩:=oB.1 h0
  cases h0
  rw[h1,oS]
  have:(H'.alloc ob).getMap x1=some x2:=by
   cases x1<;>simp only[Heap.getMap]at h2⊢ <;>try exact h2
   split at h2
   ·rename_i es hg;rw[hget hg];exact h2
   ·cases h2
  rw[this];rfl
 case look kk z ok kd m k=>
  simp only[evalOp]at h0⊢
  obtain⟨x1,h1,h0⟩:=oB.1 h0
  obtain⟨x2,h2,h0⟩:=oB.1 h0
  obtain⟨x3,h3,h0⟩:=oB.1 h0
  obtain⟨x4,h4,h0⟩:=oB.1 h0
  obtain⟨y,h0,hn2⟩:=k0i h0
  cases h0
  have:(H'.alloc ob).getMap x1=some x3:=by
   cases x1<;>simp only[Heap.getMap]at h3⊢ <;>try exact h3
   split at h3
   ·rename_i es hg;rw[hget hg];exact h3
   ·cases h3
  rw[h1,oS,h2,oS,this,oS,h4,oS,hn2]
theorem Y0e{call:CallT}{a:At}{e e2:Env}{H H2:Heap}(hq:a.quiet=true)(hw:H.get H.next=none)(hl:lim<=H.next)(ob:Obj)(h:stepA lim call a e H=some (e2,H2)):H2=H/\stepA lim call a e (H.alloc ob)=some (e2,H.alloc ob):=by
 cases a with
 |op d o=>
  simp only[stepA]at h⊢
  obtain⟨t,h1,hn⟩:=Y0d (lim:=lim) hq hw hl ob h
  cases h1
  exact⟨rfl,(hn _).2⟩
 |lbox n p x=>
  simp only[stepA]at h⊢
  obtain⟨v,hv,h⟩:=oB.1 h
  obtain⟨xs,hxs,h⟩:=oB.1 h
  split at h
  ·rename_i hc;cases h;exact⟨rfl,by rw[hv,oS,hxs,oS,if_pos hc]⟩
  ·cases h
 |lnew p z=>simp only[stepA]at h⊢;cases h;exact⟨rfl,rfl⟩
 |st hp n b x=>simp[At.quiet]at hq
 |pick and c keep d ks=>
  simp only[stepA]at h⊢
  obtain⟨v,hv,h⟩:=oB.1 h
  obtain⟨xs,hxs,h⟩:=oB.1 h
  cases h;exact⟨rfl,by rw[hv,oS,hxs,oS]⟩
theorem Y0f{call:CallT}{x:It}{e e2:Env}{H H2:Heap}(hq:x.a.quiet=true)(hw:H.get H.next=none)(hl:lim<=H.next)(ob:Obj)(h:stepI lim call x e H=some (e2,H2)):H2=H/\stepI lim call x e (H.alloc ob)=some (e2,H.alloc ob):=by
 obtain⟨i,g,a⟩:=x
 rcases k0a h with⟨h1,h2⟩ |⟨h1,h2,h3⟩
 ·obtain⟨h4,h5⟩:=Y0e hq hw hl ob h1
  exact⟨h4,by rw[h2 a e _ (fun _ _=>rfl)];exact h5⟩
 ·exact⟨h2,by rw[h1];exact h3 a e _ rfl (fun _ _=>rfl)⟩
theorem Z1W{call:CallT}{y:It}{ys:List It}{d:Nat}{o:ROp}{H:Heap}{r:Env×Heap}(hg:y.g=none)(hy:y.a= .op (some d) o)(hal:o.allocs=true)(hw:H.get H.next=none)(hl:lim<=H.next): ∀{xs:List It} {e:Env},
  (∀x∈xs,x.a.tame=true/\x.a.quiet=true/\(∀p∈x.a.writes,p∉y.reads/\p≠d)/\d∉x.reads)->xs.Pairwise (fun a b=>apartL a b=true)->(∀x∈xs,∀z∈y::ys,apartL x z=true)->Free e (W (xs++y::ys))->flat lim call (xs++y::ys) e H=some r->
  ∃e1 H1,stepI lim call y e H=some (e1,H1)/\flat lim call (xs++ys) e1 H1=some r
 | [],e,_,_,_,_,h=>by
  simp only[List.nil_append,flat]at h
  obtain⟨⟨e1,H1⟩,h1,h2⟩:=oB.1 h
  exact⟨e1,H1,h1,h2⟩
 |x::xs,e,hs,hp,hz,hf,h=>by
  simp only[List.cons_append,flat]at h
  obtain⟨⟨e1,H1⟩,h1,h2⟩:=oB.1 h
  rw[List.pairwise_cons]at hp
  obtain⟨hxt,hxq,hxw,hxd⟩:=hs x (by simp)
  have hlets: ∀p∈x.a.lets,p∉W (xs++y::ys):=by
   intro p hpx hpw
   simp only[W,List.mem_flatMap]at hpw
   obtain⟨z,hz1,hz2⟩:=hpw
   have hap:apartL x z=true:=by
    rcases mA.1 hz1 with h |h
    ·exact hp.1 z h
    ·exact hz x (by simp) z h
   simp only[apartL,bA,List.all_eq_true,bN,List.contains_eq_mem,dN]at hap
   exact hap.1 p hpx hz2
  obtain⟨f,rfl,hd⟩:=j0k hxt h1
  have hH:=hd.quiet hxq;subst hH
  have hf1:Free (Env.sets f e) (W (xs++y::ys)):=k0w h1 hf hlets fun p hp=>by simp[W]at hp⊢;exact .inr hp
  obtain⟨e2,H2,h3,h4⟩:=Z1W hg hy hal hw hl (fun z hz'=>hs z (by simp[hz'])) hp.2 (fun z hz'=>hz z (by simp[hz'])) hf1 h2
  have hyd:y.a.writes=[d]:=by rw[hy];rfl
  have hdW:d∈W (x::xs++y::ys):=by simp[W,hyd]
  have hag:Agree y.reads e (Env.sets f e):=z0I hf (fun p hp=>by simp[W,hd.slots p hp]) (fun p hp hpf=>(hxw p (hd.slots p hpf)).1 hp)
  have h3':=h3
  simp only[stepI,hg,hy,stepA]at h3'
  obtain⟨sz,cs,m,hao,h5⟩:=j0H hal h3'
  cases h5
  obtain⟨t,H4,h6,hn⟩:=q0r h3'
  simp only[oI,Prod.mk.injEq]at h6
  have hall:=hn.all (R2:=T×Heap) fun t H=>some (t,H)
  obtain⟨sz',cs',m',hao',h5'⟩:=j0H hal hall
  rw[hao]at hao';cases hao'
  simp only[oI,Prod.mk.injEq]at h5'
  obtain⟨rfl,rfl⟩:=h5'
  have hsl:Agree o.slots e (Env.sets f e):=fun p hp'=>hag p (by simp[It.reads,hg,hy,At.reads];exact hp')
  have hy1:stepI lim call y e H1=some (e.set d (.val (.c (madeC H1.next m))),H1.alloc (.cells sz cs)):=by
   simp only[stepI,hg,hy,stepA]
   rw[<-q0F hsl,hn.all]
   rfl
  refine⟨_,_,hy1, ?_⟩
  have hag2:Agree x.reads e (e.set d (.val (.c (madeC H1.next m)))):=fun p hp'=>by
   have hpd:p≠d:=fun e'=>hxd (by rw[<-e'];exact hp')
   exact⟨q0h hpd,fun q o' hq=>q0h fun e'=>(hf d hdW).2 p o' (by rw[hq,e'])⟩
  have h7:=hd.same _ hag2
  obtain⟨_,h8⟩:=Y0f hxq hw hl (.cells sz cs) h7
  have hcomm:Env.sets f (e.set d (.val (.c (madeC H1.next m))))=(Env.sets f e).setO (some d) (.val (.c (madeC H1.next m))):=
   X0c fun hc=>(hxw d (hd.slots d hc)).2 rfl
  rw[List.cons_append,q0S h8,hcomm]
  exact h4
theorem q1Y(I:Inv lim call ops its φ0 w0 eF HF listed done β a w e H φ ψ)(hpre:chkPre2 ops [] its=true){us vs:List It}{y:It}(he:its=us++y::vs)(hyd:done y.i=false)(hl:listed.getD y.i false=true)(hqs: ∀x∈us,done x.i=false->x.a.quiet=true):
  ∃e' H' φ',Inv lim call ops its φ0 w0 eF HF listed (also done y.i) β a w e' H' φ' ψ:=by
 have hyi:y∈its:=by rw[he];simp
 obtain⟨⟨⟨d,o,sz,cs,m,hg,ha,hal,hao,htm,hpv,hlen⟩,hlow⟩,hnobef⟩:=I.pend y hyi hyd hl
 have hP:=Z0v hpre
 have hP0:=hP
 rw[he]at hP
 rw[List.pairwise_append,List.pairwise_cons]at hP
 have hyal:y.a.allocs=true:=by rw[ha];exact hal
 have hyw:y.a.writes=[d]:=by rw[ha];rfl
 have hne: ∀x∈us++vs,x.i≠y.i:=fun x hx=>by
  rcases mA.1 hx with hx |hx
  ·exact(hP.2.2 x hx y (by simp)).2.1
  ·exact fun e=>(hP.2.1.1 x hx).2.1 e.symm
 obtain⟨hf1,hf2⟩:=z0k he hne hyd
 have hrun:=I.run
 have hfree:=I.free
 rw[hf1]at hrun hfree
 have hpw:(us.filter (undone done)++y::vs.filter (undone done)).Pairwise (fun a b=>apartL a b=true):=by
  rw[<-hf1];exact(hP0.imp fun h=>h.1).filter _
 rw[List.pairwise_append]at hpw
 have hwf:H.get H.next=none:=by
  cases hg':H.get H.next with
  |none=>rfl
  |some ob=>
   exfalso
   have hd:=I.heap.dom H.next (nR _)
   cases ob with
   |cells s c=>obtain⟨p,_,_,_,hp,_⟩:=I.heap.cells _ _ _ hg';rw[hd]at hp;cases hp
   |map es=>obtain⟨p,_,_,hp,_⟩:=I.heap.maps _ _ hg';rw[hd]at hp;cases hp
 have hus: ∀x∈us.filter (undone done),x.a.tame=true/\x.a.quiet=true/\(∀p∈x.a.writes,p∉y.reads/\p≠d)/\d∉x.reads:=fun x hx=>by
  obtain⟨hxu,hxd⟩:=List.mem_filter.1 hx
  have hxd:done x.i=false:=by simpa[undone]using hxd
  have hnb:=hnobef us vs he x hxu hxd
  have h0:=hP0
  rw[he,List.pairwise_append]at h0
  have:=(h0.2.2 x hxu y (by simp)).2.2.1.resolve_left (by rw[hnb];simp)
  have hyw':d∈y.a.writes:=by rw[hyw];simp
  simp only[pairOK,swapOK,Bool.or_eq_true,bA,List.all_eq_true,bN,List.contains_eq_mem,dN]at this
  rcases this with(((h |h) |h) |h) |h
  ·exact⟨h.1.1.1.1,hqs x hxu hxd,fun p hp=>⟨(h.1.1.2 p hp).1,fun e'=>(h.1.1.2 p hp).2 (by rw[e'];exact hyw')⟩,h.1.2 d hyw'⟩
  ·exact(k0x h ha).elim
  ·exact(w0v h ha hal).elim
  ·exact⟨h.1.1.2,hqs x hxu hxd,fun p hp=>⟨(h.1.2 p hp).1,fun e'=>(h.1.2 p hp).2 (by rw[e'];exact hyw')⟩,h.2 d hyw'⟩
  ·rw[hyal]at h;cases h.2
 obtain⟨e1,H1,h1,h2⟩:=Z1W hg ha hal hwf I.heap.low hus hpw.1 hpw.2.2 hfree hrun
 have h1':=h1
 simp only[stepI,hg,ha,stepA]at h1'
 obtain⟨sz',cs',m',hao',h3⟩:=j0H hal h1'
 rw[hao]at hao';cases hao'
 cases h3
 obtain⟨n,hn,hheap⟩:=adopt I.heap hpv.1 sz
 have hdW:d∈W (its.filter (undone done)):=by rw[hf1];simp[W,hyw]
 have htl: ∀c,T.val (.c (madeC H.next m))≠ .loc c:=fun c h=>by cases h
 have hset:e.setO (some d) (.val (.c (madeC H.next m)))=e.put d (.val (.c (madeC H.next m))):=(I.free.put hdW (fun q o ht=>by cases ht)).symm
 have hlocs: ∀(p:Nat) c,(e.setO (some d) (.val (.c (madeC H.next m))))[p]? =some (.loc c)->e[p]? =some (.loc c):=fun p c hp=>by rw[hset]at hp;exact z0G htl hp
 have hother: ∀(p:Nat),p≠d->(e.setO (some d) (.val (.c (madeC H.next m))))[p]? =e[p]? :=fun p hp=>List.getElem?_set_ne (Ne.symm hp)
 have halso: ∀{j},also done y.i j=false->done j=false/\j≠y.i:=fun{j} h=>by simpa[also]using h
 have hmem: ∀z∈its,z.i≠y.i->z∈us\/z∈vs:=fun z hz hzy=>by
  rw[he]at hz
  rcases mA.1 hz with h |h
  ·exact .inl h
  ·rcases mC.1 h with rfl |h
   ·exact absurd rfl hzy
   ·exact .inr h
 have hafter: ∀z∈its,done z.i=false->z.i≠y.i->z.a.allocs=true->z∈vs:=fun z hz hzd hzy hza=>(hmem z hz hzy).resolve_left fun h=>by
  have:=hqs z h hzd
  revert hza this
  cases z.a<;>simp only[At.allocs,At.quiet]<;>intro h1 h2<;>try cases h1
  rename_i d' o'
  cases d' with
  |none=>cases h1
  |some d'=>cases o'<;>simp[ROp.allocs]at h1<;>simp[ROp.quiet,ROp.neutral]at h2
 refine⟨e.setO (some d) (.val (.c (madeC H.next m))),H.alloc (.cells sz cs),φ.add H.next ⟨β y.i,0,n,sz⟩,⟨?_, ?_, ?_, ?_, ?_, ?_, ?_,hheap,I.ext.adopt I.heap hlow⟩⟩
 ·intro z hz hd
  simp only[also,Bool.or_eq_true,beq_iff_eq]at hd
  rcases hd with hd |hd
  ·exact I.did z hz hd
  ·rw[hd];exact hl
 ·intro z hz hzd hzl
  obtain⟨hzd,hzy⟩:=halso hzd
  obtain⟨⟨⟨d2,o2,sz2,cs2,m2,g1,g2,g3,g4,g5,g6,g7⟩,g8⟩,g9⟩:=I.pend z hz hzd hzl
  have hzv:=hafter z hz hzd hzy (by rw[g2];exact g3)
  have hpr:=hP.2.1.1 z hzv
  have hnb:bef ops z.i y.i=false:=by
   obtain⟨vs1,vs2,hv⟩:=List.append_of_mem hzv
   exact g9 (us++y::vs1) vs2 (by rw[he,hv];simp) y (by simp) hyd
  have hzal:z.a.allocs=true:=by rw[g2];exact g3
  have hdr:d∉z.reads:=by
   have:=hpr.2.2.1.resolve_left (by rw[hnb];simp)
   simp only[pairOK,swapOK,Bool.or_eq_true,bA,List.all_eq_true,bN,List.contains_eq_mem,dN]at this
   rcases this with(((h |h) |h) |h) |h
   ·exact(h.1.1.2 d (by simp[hyw])).1
   ·exact(k0x h g2).elim
   ·exact(w0v h g2 g3).elim
   ·exact(h.1.2 d (by simp[hyw])).1
   ·rw[hzal]at h;cases h.2
  have hag:Agree o2.slots e (e.setO (some d) (.val (.c (madeC H.next m)))):=by
   intro p hp
   have hpd:p≠d:=fun e'=>hdr (by rw[<-e'];simp[It.reads,g1,g2,At.reads];exact hp)
   exact⟨q0h hpd,fun q o hq=>q0h fun e'=>(I.free d hdW).2 p o (by rw[hq,e'])⟩
  refine⟨⟨⟨d2,o2,sz2,cs2,m2,g1,g2,g3,by rw[z0j hag];exact g4,g5,⟨g6.1.adopt I.heap fun e'=>hzy (I.inj z hz y hyi hzd hyd hzl hl e'),fun p c hp=>g6.2 p c (hlocs p c hp)⟩,g7⟩,g8⟩,fun us2 vs2 h2 x hx hxd=>g9 us2 vs2 h2 x hx (halso hxd).1⟩
 ·intro z hz z2 hz2 hd1 hd2 hl1 hl2 hb
  exact I.inj z hz z2 hz2 (halso hd1).1 (halso hd2).1 hl1 hl2 hb
 ·rw[hf2];exact h2
 ·have hsub: ∀p∈W (its.filter (undone (also done y.i))),p∈W (its.filter (undone done)):=fun p hp=>by
   rw[hf2]at hp;rw[hf1]
   simp[W]at hp⊢
   rcases hp with h |h<;>simp[h]
  exact(I.free.sub hsub).set (fun cs hc=>by cases hc) (fun q o hq=>by cases hq)
 ·intro z hz hzd d2 o2 g2 g3 t ht
  obtain⟨hzd,hzy⟩:=halso hzd
  have hzv:=hafter z hz hzd hzy (by rw[g2];exact g3)
  have hd2:d2≠d:=fun e'=>(hP.2.1.1 z hzv).2.2.2.1 hyal d (by simp[hyw]) (by rw[g2];simp[At.writes,e'])
  rw[hother d2 hd2]at ht
  exact I.zero z hz hzd d2 o2 g2 g3 t ht
 ·rw[hset]
  have h5:=I.env.adopt (n:=n) (sz:=sz) (b:=β y.i) I.heap hpv.2
  have h6:=h5.put d (t:= .val (.c (madeC H.next m))) (x:=madeV (β y.i) m) (Q1S (Phi.add_same _ _ _) (fun k hk=>by rw[<-hn];exact hlen k hk))
  have h7:a.tmps.setIfInBounds d (madeV (β y.i) m)=a.tmps:=by
   refine Array.ext_getElem? fun j=> ?_
   rw[Array.getElem?_setIfInBounds]
   split
   ·rename_i hj;subst hj
    split
    ·exact htm.symm
    ·rename_i hlt;rw[Array.getElem?_eq_none (by omega)]
   ·rfl
  rwa [h7]at h6
theorem q1Z(hpre:chkPre2 ops [] its=true): ∀(n:Nat) (done:Nat->Bool) (e:Env) (H:Heap) (φ:Phi),(its.filter (undone done)).length=n->Inv lim call ops its φ0 w0 eF HF listed done β a w e H φ ψ->
  ∃done' e' H' φ',Inv lim call ops its φ0 w0 eF HF listed done' β a w e' H' φ' ψ/\Fr its listed done':=by
 intro n
 induction n with
 |zero=>
  intro done e H φ hn I
  have hnil:=List.eq_nil_of_length_eq_zero hn
  refine⟨done,e,H,φ,I,fun us y vs he hd hl=> ?_⟩
  have:y∈its.filter (undone done):=List.mem_filter.2 ⟨by rw[he];simp,by simp[undone,hd]⟩
  rw[hnil]at this;cases this
 |succ n ih=>
  intro done e H φ hn I
  by_cases hfr:Fr its listed done
  ·exact⟨done,e,H,φ,I,hfr⟩
  ·obtain⟨us,y,vs,he,hyd,hl,hno⟩: ∃us y vs,its=us++y::vs/\done y.i=false/\listed.getD y.i false=true/\ ¬ ∃x∈us,done x.i=false/\x.a.quiet=false:=by
    refine Classical.byContradiction fun hc=>hfr fun us y vs he hd hl=>Classical.byContradiction fun hno=>hc ⟨us,y,vs,he,hd,hl,hno⟩
   obtain⟨e',H',φ',I'⟩:=q1Y I hpre he hyd hl fun x hx hxd=>by
    cases hq:x.a.quiet with
    |true=>rfl
    |false=>exact absurd ⟨x,hx,hxd,hq⟩ hno
   have hP:=Z0v hpre
   rw[he]at hP
   rw[List.pairwise_append,List.pairwise_cons]at hP
   have hne: ∀x∈us++vs,x.i≠y.i:=fun x hx=>by
    rcases mA.1 hx with hx |hx
    ·exact(hP.2.2 x hx y (by simp)).2.1
    ·exact fun e=>(hP.2.1.1 x hx).2.1 e.symm
   obtain⟨hf1,hf2⟩:=z0k he hne hyd
   refine ih _ e' H' φ' ?_ I'
   rw[hf1]at hn;rw[hf2];simp at hn⊢;omega
end
def chkRow2(P:Program)(ops:Array Oper)(its:List It):Bool:=
 its.all (chkIt P ops)&&its.length==ops.size&&(List.range ops.size).all (fun k=>its.any (fun x=>x.i==k))&&chkPre2 ops [] its&&chkWait ops [] its
theorem Y0g{ops:Array Oper}: ∀{its pre:List It},chkWait ops pre its=true-> ∀{us vs:List It} {x:It},its=us++x::vs->x.a.allocs=true->x.g.isSome=false-> ∀y∈vs,bef ops y.i x.i=true-> ∀u∈pre++us,bef ops y.i u.i=true\/u.a.quiet=true:=by
 intro its
 induction its with
 |nil=>intro pre h us vs y he;cases us<;>simp at he
 |cons z zs ih=>
  intro pre h us vs x he ha hg y hy hb u hu
  simp only[chkWait,bA]at h
  cases us with
  |nil=>
   simp only[List.nil_append,List.cons.injEq]at he
   obtain⟨rfl,rfl⟩:=he
   simp only[List.append_nil]at hu
   have h1:=h.1
   simp only[ha,hg,Bool.not_true,Bool.false_or,List.all_eq_true,Bool.or_eq_true,bN]at h1
   rcases h1 y hy with h |h
   ·rw[hb]at h;cases h
   ·exact h u hu
  |cons v us=>
   simp only[List.cons_append,List.cons.injEq]at he
   obtain⟨rfl,rfl⟩:=he
   exact ih h.2 (us:=us) (vs:=vs) (x:=x) rfl ha hg y hy hb u (by simpa using hu)
section
variable{call:CallT}{ops:Array Oper}{its:List It}{φ0:Phi}{w0:World}{eF:Env}{HF:Heap}{listed:Array Bool}{done:Nat->Bool}{β:Nat->Nat}{a:Act}{w:World}{e:Env}{H:Heap}{φ:Phi}{ψ:Nat->Nat}
theorem k1u{z:It}{e e1:Env}{H H1:Heap}(h:stepI lim call z e H=some (e1,H1)):e1.length=e.length:=by
 by_cases ht:z.a.tame=true
 ·obtain⟨f,rfl,hd⟩:=j0k ht h
  exact w0R
 ·obtain⟨i,g,a⟩:=z
  cases a with
  |st hp' n b x=>
   have stp: ∀{e1 H1},stepA lim call (.st hp' n b x) e H=some (e1,H1)->e1.length=e.length:=by
    intro e1 H1 h
    simp only[stepA]at h
    obtain⟨v,hv,h⟩:=oB.1 h
    obtain⟨xs,hxs,h⟩:=oB.1 h
    split at h
    ·cases h
    ·rcases q0o h with⟨q,o,h,hroot,hn⟩ |⟨j,o,h,hn⟩
     ·split at h
      ·cases h
      ·obtain⟨cs,hcs,h⟩:=oB.1 h
       split at h
       ·cases h;simp
       ·cases h
     ·split at h
      ·cases h
      obtain⟨H1,hst,h⟩:=oB.1 h
      cases h;rfl
   cases g with
   |none=>exact stp h
   |some y=>
    obtain⟨c,want⟩:=y
    simp only[stepI]at h
    obtain⟨b,hb,h⟩:=oB.1 h
    split at h
    ·exact stp h
    ·cases h;rfl
  |_=>simp[At.tame]at ht
theorem J0w: ∀{xs:List It} {e e2:Env} {H H2:Heap},flat lim call xs e H=some (e2,H2)->e2.length=e.length
 | [],e,e2,H,H2,h=>by simp only[flat]at h;cases h;rfl
 |x::xs,e,e2,H,H2,h=>by
  simp only[flat]at h
  obtain⟨⟨e1,H1⟩,h1,h2⟩:=oB.1 h
  exact(J0w h2).trans (k1u h1)
theorem X0f{p:It->Prop}: ∀{us:List It},(∃u∈us,p u)-> ∃us1 u us2,us=us1++u::us2/\p u/\ ∀z∈us1,¬p z
 | [],h=>by obtain⟨u,hu,_⟩:=h;cases hu
 |x::us,h=>by
  by_cases hx:p x
  ·exact⟨[],x,us,rfl,hx,fun z hz=>by cases hz⟩
  ·obtain⟨u,hu,hpu⟩:=h
   rcases mC.1 hu with rfl |hu
   ·exact absurd hpu hx
   ·obtain⟨us1,v,us2,h1,h2,h3⟩:=X0f ⟨u,hu,hpu⟩
    refine⟨x::us1,v,us2,by rw[h1];rfl,h2,fun z hz=> ?_⟩
    rcases mC.1 hz with rfl |hz
    ·exact hx
    ·exact h3 z hz
theorem Inv.ready(I:Inv lim call ops its φ0 w0 eF HF listed done β a w e H φ ψ)(hwait:chkWait ops [] its=true)
  (hfront:Fr its listed done)
  {us vs:List It} {y:It} (heq:its=us++y::vs) (hB: ∀x∈its,bef ops y.i x.i=true->listed.getD x.i false=true) {x:It} (hx:x∈us) (hxd:done x.i=false):bef ops y.i x.i=false:=by
 cases hb:bef ops y.i x.i with
 |false=>rfl
 |true=>
  exfalso
  have hxi:x∈its:=by rw[heq];simp[hx]
  obtain⟨⟨⟨d,o,sz,cs,m,hg,ha,hal,_⟩,_⟩,_⟩:=I.pend x hxi hxd (hB x hxi hb)
  obtain⟨us1,us2,hu⟩:=List.append_of_mem hx
  obtain⟨f,hf1,hf2,hf3⟩:=hfront us1 x (us2++y::vs) (by rw[heq,hu];simp) hxd (hB x hxi hb)
  obtain⟨vs1,u,vs2,h1,⟨h2,h3⟩,h4⟩:=X0f (p:=fun z=>done z.i=false/\z.a.quiet=false) ⟨f,hf1,hf2,hf3⟩
  have hw:=Y0g hwait (us:=us1) (vs:=us2++y::vs) (x:=x) (by rw[heq,hu];simp) (by rw[ha];exact hal) (by rw[hg];rfl) y (by simp) hb u (by rw[h1];simp)
  have hbu:=hw.resolve_right (by rw[h3];simp)
  have hui:u∈its:=by rw[heq,hu,h1];simp
  obtain⟨z,hz1,hz2,hz3⟩:=hfront vs1 u (vs2++x::(us2++y::vs)) (by rw[heq,hu,h1];simp) h2 (hB u hui hbu)
  exact h4 z hz1 ⟨hz2,hz3⟩
theorem LocRel.push{φ:Phi}{w:World}{b:Nat}{cs:List C}(h:LocRel lim φ w b cs)(A:Array Value)(t:TypeId):LocRel lim φ (w.alloc (.cells A t)) b cs:=h.ext (Ext.push φ w A t)
theorem j1a(I:Inv lim call ops its φ0 w0 eF HF listed done β a w e H φ ψ)(hpre:chkPre2 ops [] its=true)(hwait:chkWait ops [] its=true)(hits: ∀it∈its,chkIt P ops it=true)(hsz:listed.size=ops.size)(hlen: ∀z∈its,∀p∈z.a.writes,p<eF.length)
  (hfront:Fr its listed done)
  {us vs:List It} {y:It} (heq:its=us++y::vs) (hB: ∀x∈its,bef ops y.i x.i=true->listed.getD x.i false=true) (hnl:listed.getD y.i false=false)
  (hal:y.a.allocs=true) (hg:y.g=none) {Q:Exit->Act->World->Prop} {K:Act->World->Prop}
  (hK: ∀a' w' β',a'.defers=a.defers->Inv lim call ops its φ0 w0 eF HF (listed.setIfInBounds y.i true) done β' a' w' e H φ ψ->K a' w'):wpOp P ops Q y.i K a w:=by
 obtain⟨d,o,ha,hoal⟩: ∃d o,y.a= .op (some d) o/\o.allocs=true:=by
  cases hya:y.a with
  |op d o=>cases d with
   |none=>rw[hya]at hal;simp[At.allocs]at hal
   |some d=>rw[hya]at hal;exact⟨d,o,rfl,hal⟩
  |_=>rw[hya]at hal;simp[At.allocs]at hal
 have hyi:y∈its:=by rw[heq];simp
 have hyw:y.a.writes=[d]:=by rw[ha];rfl
 have hyd:done y.i=false:=by
  cases h:done y.i with
  |false=>rfl
  |true=>rw[I.did y hyi h]at hnl;cases hnl
 have hP:=Z0v hpre
 have hP0:=hP
 rw[heq]at hP
 rw[List.pairwise_append,List.pairwise_cons]at hP
 have hne: ∀x∈us++vs,x.i≠y.i:=fun x hx=>by
  rcases mA.1 hx with hx |hx
  ·exact(hP.2.2 x hx y (by simp)).2.1
  ·exact fun e=>(hP.2.1.1 x hx).2.1 e.symm
 have hoth: ∀z∈its,z.i≠y.i->z∈us\/z∈vs:=fun z hz hzy=>by
  rw[heq]at hz
  rcases mA.1 hz with h |h
  ·exact .inl h
  ·rcases mC.1 h with rfl |h
   ·exact absurd rfl hzy
   ·exact .inr h
 have hsame: ∀z∈its,z.i=y.i->z=y:=fun z hz hzy=>by
  rw[heq]at hz
  rcases mA.1 hz with h |h
  ·exact absurd hzy (hne z (by simp[h]))
  ·rcases mC.1 h with rfl |h
   ·rfl
   ·exact absurd hzy (hne z (by simp[h]))
 obtain⟨hf1,hf2⟩:=z0k heq hne hyd
 have hrun:=I.run
 have hfree:=I.free
 have hpw:(us.filter (undone done)++y::vs.filter (undone done)).Pairwise (fun a b=>apartL a b=true):=by
  rw[<-hf1];exact(hP0.imp fun h=>h.1).filter _
 rw[List.pairwise_append,List.pairwise_cons]at hpw
 rw[hf1]at hrun hfree
 have hos: ∀x∈us.filter (undone done),x.a.tame=true/\ ∀p∈x.a.writes,p∉o.slots:=fun x hx=>by
  obtain⟨hxu,hxd⟩:=List.mem_filter.1 hx
  have hxd:done x.i=false:=by simpa[undone]using hxd
  have hnb:=I.ready hwait hfront heq hB hxu hxd
  have:=(hP.2.2 x hxu y (by simp)).2.2.1.resolve_left (by rw[hnb];simp)
  simp only[pairOK,swapOK,Bool.or_eq_true,bA,List.all_eq_true,bN,List.contains_eq_mem,dN]at this
  have hsl: ∀p,p∈o.slots->p∈y.reads:=fun p hp=>by simp[It.reads,hg,ha,At.reads];exact hp
  rcases this with(((h |h) |h) |h) |h
  ·exact⟨h.1.1.1.1,fun p hp hps=>(h.1.1.2 p hp).1 (hsl p hps)⟩
  ·exact(k0x h ha).elim
  ·exact(w0v h ha hoal).elim
  ·exact⟨h.1.1.2,fun p hp hps=>(h.1.2 p hp).1 (hsl p hps)⟩
  ·rw[hal]at h;cases h.2
 obtain⟨e1,H1,hr1,hag⟩:=Q0F (S:=o.slots) hos hpw.1 (fun x hx z hz=>hpw.2.2 x hx z hz) hfree hrun
 simp only[flat]at hr1
 obtain⟨⟨e2,H2⟩,h1,h2⟩:=oB.1 hr1
 simp only[stepI,hg,ha,stepA]at h1
 obtain⟨sz,cs,m,hao,_⟩:=j0H hoal h1
 rw[z0j hag]at hao
 have hci:=hits y hyi
 unfold chkIt at hci
 split at hci
 rotate_left
 ·cases hci
 rename_i op hop
 simp only[bA]at hci
 obtain⟨⟨hat,hgm⟩,_⟩:=hci
 rw[ha]at hat
 simp only[chkAt,bA,beq_iff_eq]at hat
 obtain⟨hdst,hck⟩:=hat
 have hgn:op.guard=none:=by
  rw[hg]at hgm
  cases hog:op.guard with
  |none=>rfl
  |some y=>rw[hog]at hgm;simp[gmatch]at hgm
 rw[Y0c hoal]at hck
 obtain⟨A,el,hex,hA,hmlen⟩:=K0f hck I.env I.heap hao
 have hylt:y.i<listed.size:=by rw[hsz];exact(Array.getElem?_eq_some_iff.1 hop).1
 have hzero:=I.zero y hyi hyd d o ha hoal
 have hlow:=I.ext.size
 have hnew:Priv lim φ (w.alloc (.cells A el)) e ψ w.heap.size cs:=by
  refine⟨⟨⟨A,el,by show(w.heap.push _)[w.heap.size]? =_;simp,hA⟩,fun j p hp e'=> ?_⟩,fun p c hp e'=> ?_⟩
  ·have:=I.heap.bound j p hp;omega
  ·obtain⟨x,hx,hr⟩:=I.env.tmp p _ hp
   have:=hr.2.lt;omega
 have hl2: ∀z∈its,(listed.setIfInBounds y.i true).getD z.i false=true->z.i≠y.i->listed.getD z.i false=true:=fun z hz h hzy=>by
  rwa [getD_set_ne false (Ne.symm hzy)]at h
 unfold wpOp
 simp only[hop]
 rw[if_pos (by simp[Region.wanted,hgn])]
 left
 refine q0u hex ?_
 rw[hdst]
 refine hK _ _ (fun j=>if j=y.i then w.heap.size else β j) (q0Z _ _ _) ⟨?_, ?_, ?_,I.run,I.free,I.zero, ?_,I.heap.push _, ?_⟩
 ·intro z hz hzd
  exact getD_set_true (I.did z hz hzd)
 ·intro z hz hzd hzl
  by_cases hzy:z.i=y.i
  ·have:=hsame z hz hzy;subst this
   have hde:=I.env.len
   have hdlt:d<a.tmps.size:=by
    rw[<-hde,<-J0w I.run]
    exact hlen z hz d (by simp[hyw])
   refine⟨⟨⟨d,o,sz,cs,m,hg,ha,hoal,hao,by simp[Act.put,hdlt],by simpa using hnew,hmlen⟩,by simpa using hlow⟩,fun us2 vs2 h2 x hx hxd=>I.ready hwait hfront h2 hB hx hxd⟩
  ·have hzl':=hl2 z hz hzl hzy
   obtain⟨⟨⟨d2,o2,sz2,cs2,m2,g1,g2,g3,g4,g5,g6,g7⟩,g8⟩,g9⟩:=I.pend z hz hzd hzl'
   have hd2:d2≠d:=fun e'=>by
    have hzw:d2∈z.a.writes:=by rw[g2];simp[At.writes]
    rcases hoth z hz hzy with h |h
    ·exact(hP.2.2 z h y (by simp)).2.2.2.2 hal d (by simp[hyw]) (by rw[<-e'];exact hzw)
    ·exact(hP.2.1.1 z h).2.2.2.1 hal d (by simp[hyw]) (by rw[<-e'];exact hzw)
   simp only[hzy,iF]
   refine⟨⟨⟨d2,o2,sz2,cs2,m2,g1,g2,g3,g4,by simp[Act.put,Array.getElem?_setIfInBounds,Ne.symm hd2];exact g5,⟨g6.1.push _ _,g6.2⟩,g7⟩,g8⟩,g9⟩
 ·intro z hz z2 hz2 hd1 hd2 hl1 hl2' hb
  by_cases hzy:z.i=y.i<;>by_cases hzy2:z2.i=y.i
  ·rw[hzy,hzy2]
  ·exfalso
   simp only[hzy,hzy2,iT,iF]at hb
   obtain⟨⟨⟨d2,o2,sz2,cs2,m2,g1,g2,g3,g4,g5,g6,g7⟩,g8⟩,g9⟩:=I.pend z2 hz2 hd2 (hl2 z2 hz2 hl2' hzy2)
   have:=g6.1.lt;omega
  ·exfalso
   simp only[hzy,hzy2,iT,iF]at hb
   obtain⟨⟨⟨d2,o2,sz2,cs2,m2,g1,g2,g3,g4,g5,g6,g7⟩,g8⟩,g9⟩:=I.pend z hz hd1 (hl2 z hz hl1 hzy)
   have:=g6.1.lt;omega
  ·simp only[hzy,hzy2,iF]at hb
   exact I.inj z hz z2 hz2 hd1 hd2 (hl2 z hz hl1 hzy) (hl2 z2 hz2 hl2' hzy2) hb
 ·exact(I.env.ext (Ext.push φ w _ _)).any d hzero _
 ·exact I.ext.trans (Ext.push φ w _ _)
theorem j1b(hcall:CallOK lim P call)(I:Inv lim call ops its φ0 w0 eF HF listed done β a w e H φ ψ)(hpre:chkPre2 ops [] its=true)(hwait:chkWait ops [] its=true)(hits: ∀it∈its,chkIt P ops it=true)(hsz:listed.size=ops.size)
  (hdc: ∀i k,k<ops.size->listed.getD i false=true->bef ops i k=true->listed.getD k false=true) (hsize: ∀it∈its,it.i<ops.size)
  (hfront:Fr its listed done)
  {us vs:List It} {y:It} (heq:its=us++y::vs) (hB: ∀x∈its,bef ops y.i x.i=true->listed.getD x.i false=true) (hnl:listed.getD y.i false=false)
  (hnp: ¬(y.a.allocs=true/\y.g=none)) {Q:Exit->Act->World->Prop} {K:Act->World->Prop}
  (hK: ∀a' w' e' H' φ' ψ',a'.defers=a.defers->Inv lim call ops its φ0 w0 eF HF (listed.setIfInBounds y.i true) (also done y.i) β a' w' e' H' φ' ψ'->K a' w'):wpOp P ops Q y.i K a w:=by
 have hyi:y∈its:=by rw[heq];simp
 have hyd:done y.i=false:=by
  cases h:done y.i with
  |false=>rfl
  |true=>rw[I.did y hyi h]at hnl;cases hnl
 have hP:=Z0v hpre
 have hP0:=hP
 rw[heq]at hP
 rw[List.pairwise_append,List.pairwise_cons]at hP
 have hne: ∀x∈us++vs,x.i≠y.i:=fun x hx=>by
  rcases mA.1 hx with hx |hx
  ·exact(hP.2.2 x hx y (by simp)).2.1
  ·exact fun e=>(hP.2.1.1 x hx).2.1 e.symm
 have hoth: ∀z∈its,z.i≠y.i->z∈us\/z∈vs:=fun z hz hzy=>by
  rw[heq]at hz
  rcases mA.1 hz with h |h
  ·exact .inl h
  ·rcases mC.1 h with rfl |h
   ·exact absurd rfl hzy
   ·exact .inr h
 obtain⟨hf1,hf2⟩:=z0k heq hne hyd
 have hrun:=I.run
 have hfree:=I.free
 have hpw:(us.filter (undone done)++y::vs.filter (undone done)).Pairwise (fun a b=>apartL a b=true):=by
  rw[<-hf1];exact(hP0.imp fun h=>h.1).filter _
 rw[List.pairwise_append,List.pairwise_cons]at hpw
 rw[hf1]at hrun hfree
 have hnoal:y.a.allocs=true->y.g.isNone=true->False:=fun h1 h2=>hnp ⟨h1,by simpa using h2⟩
 have hcr:Cross y (us.filter (undone done)):=by
  have h1:=J0v hpre heq
  rw[List.nil_append]at h1
  refine X0e (fun h=>hnp h) h1 (fun x hx hxd=>I.ready hwait hfront heq hB hx hxd) fun x hx hxd hxa z hz hzx=> ?_
  cases hzd:done z.i with
  |false=>rfl
  |true=>
   exfalso
   have hxi:x∈its:=by rw[heq];simp[hx]
   have hzi:z∈its:=by rw[heq];simp[hz]
   have hxl:=hdc z.i x.i (hsize x hxi) (I.did z hzi hzd) hzx
   obtain⟨⟨⟨d,o,sz,cs,m,hg,ha,hal,_⟩,_⟩,_⟩:=I.pend x hxi hxd hxl
   rw[ha]at hxa
   have:o.allocs=false:=hxa
   rw[hal]at this;cases this
 have honce:OnceC y (us.filter (undone done)):=by
  have:=Z0t hpre heq
  rw[List.nil_append]at this
  exact List.Pairwise.filter _ this
 obtain⟨e1,H1,h1,h2⟩:=K1U hcr
  (fun x hx=>hpw.2.2 x hx y (by simp)) hpw.1 (fun x hx z hz=>hpw.2.2 x hx z (by simp[hz])) honce hfree hrun
 generalize hds:W (us.filter (undone done))=ds at h1
 obtain⟨rw1,rw2,rw3,rw4,rw5⟩:=k0V ds y
 have hWy: ∀p∈y.a.writes,p∈W (us.filter (undone done)++y::vs.filter (undone done)):=fun p hp=>by simp[W,hp]
 have hWr: ∀p∈(y.rms ds).a.writes,p∈W (us.filter (undone done)++y::vs.filter (undone done)):=by rw[rw1];exact hWy
 rw[<-rw4]
 refine Y0a hcall (q1V ds (hits y hyi)) I.env I.heap I.ext hfree hWr h1 fun a' w' φ' ψ' he' hH' hx' hd' hot hpv=> ?_
 rw[rw1]at hot
 have hylt:y.i<listed.size:=by
  have hci:=hits y hyi
  unfold chkIt at hci
  split at hci
  ·rename_i op hop;rw[hsz];exact(Array.getElem?_eq_some_iff.1 hop).1
  ·cases hci
 have halso: ∀{j},also done y.i j=false->done j=false/\j≠y.i:=fun{j} h=>by simpa[also]using h
 have hl2: ∀z∈its,(listed.setIfInBounds y.i true).getD z.i false=true->z.i≠y.i->listed.getD z.i false=true:=fun z hz h hzy=>by
  rwa [getD_set_ne false (Ne.symm hzy)]at h
 have hpendy: ∀z∈its,z.i≠y.i->done z.i=false->listed.getD z.i false=true->y.a.tame=true/\ ∀p∈y.a.writes,p∉z.reads:=fun z hz hzy hzd hzl=>by
  obtain⟨⟨⟨d2,o2,sz2,cs2,m2,g1,g2,g3,g4,g5,g6,g7⟩,g8⟩,g9⟩:=I.pend z hz hzd hzl
  rcases hoth z hz hzy with h |h
  ·have hnb:=I.ready hwait hfront heq hB h hzd
   have:=(hP.2.2 z h y (by simp)).2.2.1.resolve_left (by rw[hnb];simp)
   simp only[pairOK,swapOK,Bool.or_eq_true,bA,List.all_eq_true,bN,List.contains_eq_mem,dN]at this
   rcases this with(((h |h) |h) |h) |h
   ·exact⟨h.1.1.1.2,fun p hp=>h.1.2 p hp⟩
   ·exact(Z0s h g2 g3).elim
   ·exact(K0g h g2 g3).elim
   ·exact(hnoal h.1.1.1.1 h.1.1.1.2).elim
   ·rw[show z.a.allocs=true by rw[g2];exact g3]at h;cases h.1
  ·obtain⟨vs1,vs2,hv⟩:=List.append_of_mem h
   have hnb:bef ops z.i y.i=false:=g9 (us++y::vs1) vs2 (by rw[heq,hv];simp) y (by simp) hyd
   have:=(hP.2.1.1 z h).2.2.1.resolve_left (by rw[hnb];simp)
   simp only[pairOK,swapOK,Bool.or_eq_true,bA,List.all_eq_true,bN,List.contains_eq_mem,dN]at this
   rcases this with(((h |h) |h) |h) |h
   ·exact⟨h.1.1.1.1,fun p hp=>(h.1.1.2 p hp).1⟩
   ·exact(k0x h g2).elim
   ·exact(w0v h g2 g3).elim
   ·exact⟨h.1.1.2,fun p hp=>(h.1.2 p hp).1⟩
   ·rw[show z.a.allocs=true by rw[g2];exact g3]at h;cases h.2
 have hapart: ∀z∈its,z.i≠y.i->(y.a.allocs=true\/z.a.allocs=true)-> ∀p∈z.a.writes,p∉y.a.writes:=fun z hz hzy hal p hp hpy=>by
  rcases hoth z hz hzy with h |h
  ·have:=hP.2.2 z h y (by simp)
   rcases hal with hal |hal
   ·exact this.2.2.2.2 hal p hpy hp
   ·exact this.2.2.2.1 hal p hp hpy
  ·have:=hP.2.1.1 z h
   rcases hal with hal |hal
   ·exact this.2.2.2.1 hal p hpy hp
   ·exact this.2.2.2.2 hal p hp hpy
 refine hK a' w' e1 H1 φ' ψ' hd' ⟨?_, ?_, ?_, ?_, ?_, ?_,he',hH',hx'⟩
 ·intro z hz hzd
  simp only[also,Bool.or_eq_true,beq_iff_eq]at hzd
  rcases hzd with h |h
  ·exact getD_set_true (I.did z hz h)
  ·rw[h,Array.getD_eq_getD_getElem?,Array.getElem?_setIfInBounds];simp[hylt]
 ·intro z hz hzd hzl
  obtain⟨hzd,hzy⟩:=halso hzd
  have hzl':=hl2 z hz hzl hzy
  obtain⟨ht,hdis⟩:=hpendy z hz hzy hzd hzl'
  obtain⟨⟨⟨d2,o2,sz2,cs2,m2,g1,g2,g3,g4,g5,g6,g7⟩,g8⟩,g9⟩:=I.pend z hz hzd hzl'
  have hag:Agree o2.slots e e1:=Q0E (by rw[rw3];exact ht) h1 hfree hWr fun p hp hps=>hdis p (by rw[rw1]at hp;exact hp) (by simp[It.reads,g1,g2,At.reads];exact hps)
  have hd2:d2∉y.a.writes:=hapart z hz hzy (.inr (by rw[g2];exact g3)) d2 (by rw[g2];simp[At.writes])
  exact⟨⟨⟨d2,o2,sz2,cs2,m2,g1,g2,g3,by rw[z0j hag];exact g4,by rw[hot d2 hd2];exact g5,hpv _ _ g6,g7⟩,g8⟩,fun us2 vs2 h2 x hx hxd=>g9 us2 vs2 h2 x hx (halso hxd).1⟩
 ·intro z hz z2 hz2 hd1 hd2 hl1 hl2' hb
  exact I.inj z hz z2 hz2 (halso hd1).1 (halso hd2).1 (hl2 z hz hl1 (halso hd1).2) (hl2 z2 hz2 hl2' (halso hd2).2) hb
 ·rw[hf2];exact h2
 ·rw[hf2]
  refine k0w h1 hfree (fun p hp hpw2=> ?_) fun p hp=>by simp[W]at hp⊢;rcases hp with h |h<;>simp[h]
  simp only[W,List.mem_flatMap,mA]at hpw2
  obtain⟨z,hz,hpz⟩:=hpw2
  have hap: ∀p∈y.a.lets,p∉z.a.writes:=by
   rcases hz with hz |hz
   ·have:=hpw.2.2 z hz y (by simp)
    simp only[apartL,bA,List.all_eq_true,bN,List.contains_eq_mem,dN]at this
    exact this.2
   ·have:=hpw.2.1.1 z hz
    simp only[apartL,bA,List.all_eq_true,bN,List.contains_eq_mem,dN]at this
    exact this.1
  exact hap p (by rw[rw2]at hp;exact hp) hpz
 ·intro z hz hzd d2 o2 g2 g3 t ht
  obtain⟨hzd,hzy⟩:=halso hzd
  have hzw:d2∈z.a.writes:=by rw[g2];simp[At.writes]
  have hd2:d2∉y.a.writes:=hapart z hz hzy (.inr (by rw[g2];exact g3)) d2 hzw
  have hin:d2∈W (us.filter (undone done)++y::vs.filter (undone done)):=by
   rw[<-hf1]
   simp only[W,List.mem_flatMap]
   exact⟨z,List.mem_filter.2 ⟨hz,by simp[undone,hzd]⟩,hzw⟩
  rw[q1W h1 hfree hin (by rw[rw1];exact hd2)]at ht
  exact I.zero z hz hzd d2 o2 g2 g3 t ht
theorem j1c(hcall:CallOK lim P call){Q:Exit->Act->World->Prop}(hrow:chkRow2 P ops its=true){d0:List Deferred}(hlen: ∀z∈its,∀p∈z.a.writes,p<eF.length)
  (fin: ∀a w φ ψ,ERel lim w0.heap.size φ ψ eF a.tmps w->HRel lim φ HF w->Ext lim φ0 w0 φ w->a.defers=d0->Q .normal a w):
  ∀(fuel:Nat) (listed:Array Bool) (done:Nat->Bool) (β:Nat->Nat) (a:Act) (w:World) (e:Env) (H:Heap) (φ:Phi) (ψ:Nat->Nat),listed.size=ops.size->(its.filter (unl listed)).length=fuel->
   (∀i k,k<ops.size->listed.getD i false=true->bef ops i k=true->listed.getD k false=true)->Inv lim call ops its φ0 w0 eF HF listed done β a w e H φ ψ->
   Fr its listed done->a.defers=d0->wpAny P .any ops Q fuel listed a w:=by
 simp only[chkRow2,bA,List.all_eq_true,List.any_eq_true,List.mem_range,beq_iff_eq]at hrow
 obtain⟨⟨⟨⟨hits,hlen'⟩,hfull⟩,hpre⟩,hwait⟩:=hrow
 have hpairs:=Z0v hpre
 have hsize: ∀it∈its,it.i<ops.size:=fun it hit=>by
  have:=hits it hit
  unfold chkIt at this
  split at this
  ·rename_i o ho;exact(Array.getElem?_eq_some_iff.1 ho).1
  ·cases this
 intro fuel
 induction fuel with
 |zero=>
  intro listed done β a w e H φ ψ hsz hfl hdc I hfront hd
  have hnil:=List.eq_nil_of_length_eq_zero hfl
  have hall: ∀it∈its,listed.getD it.i false=true:=fun it hit=>by
   cases h:listed.getD it.i false with
   |true=>rfl
   |false=>
    have hlt:=hsize it hit
    have:it∈its.filter (unl listed):=List.mem_filter.2 ⟨hit,by
     rw[Array.getD_eq_getD_getElem?,Array.getElem?_eq_getElem (by omega)]at h
     simp only[unl,Array.getD_eq_getD_getElem?]
     rw[Array.getElem?_eq_getElem (by omega)]
     simp only[Option.getD_some]at h⊢
     rw[h];rfl⟩
    rw[hnil]at this;cases this
  refine⟨?_, ?_⟩
  ·cases hr:Region.ready .any ops listed with
   |nil=>rfl
   |cons i is=>
    exfalso
    have hi:i∈Region.ready .any ops listed:=by rw[hr];simp
    obtain⟨h0,o,ho,_⟩:=mem_ready.1 hi
    obtain⟨it,hit,rfl⟩:=hfull i (Array.getElem?_eq_some_iff.1 ho).1
    have:it∈its.filter (unl listed):=List.mem_filter.2 ⟨hit,by simp[unl,h0]⟩
    rw[hnil]at this;cases this
  ·have hr:=I.run
   cases hf:its.filter (undone done)with
   |nil=>
    rw[hf]at hr
    simp only[flat]at hr
    cases hr
    exact fin a w φ ψ I.env I.heap I.ext hd
   |cons y ys=>
    exfalso
    obtain⟨us,vs,heq,hus,hyp,_⟩:=Z0u hf
    obtain⟨x,hx,hxd,_⟩:=hfront us y vs heq (by simpa[undone]using hyp) (hall y (by rw[heq];simp))
    have:=hus x hx
    simp[undone,hxd]at this
 |succ fuel ih=>
  intro listed done β a w e H φ ψ hsz hfl hdc I hfront hd
  have hlisted: ∀it∈its,listed.getD it.i false=true\/unl listed it=true:=fun it hit=>by
   have:=hsize it hit
   simp only[unl,Array.getD_eq_getD_getElem?]
   rw[Array.getElem?_eq_getElem (by omega)]
   simp only[Option.getD_some]
   cases listed[it.i]<;>simp
  refine⟨fun hr=> ?_,fun i hi=> ?_⟩
  ·exfalso
   cases hfs:its.filter (unl listed)with
   |nil=>rw[hfs]at hfl;simp at hfl
   |cons y ys=>
    obtain⟨us,vs,heq,hus,hy,_⟩:=List.filter_eq_cons_iff.1 hfs
    obtain⟨⟨o,ho,haft,_⟩,_⟩:=k0W hpre heq
    have hyi:y∈its:=by rw[heq];simp
    have:y.i∈Region.ready .any ops listed:=by
     refine mem_ready.2 ⟨by simpa[unl]using hy,o,ho,fun ed hed hb=> ?_⟩
     obtain⟨x,hxm,hxi⟩:=haft ed hed hb
     simp only[List.nil_append]at hxm
     rw[<-hxi]
     exact(hlisted x (by rw[heq];simp[hxm])).resolve_right (fun h=>hus x hxm h)
    rw[hr]at this;cases this
  ·obtain⟨h0,o,ho,haft⟩:=mem_ready.1 hi
   obtain⟨y,hy,rfl⟩:=hfull i (Array.getElem?_eq_some_iff.1 ho).1
   obtain⟨us,vs,heq⟩:=List.append_of_mem hy
   obtain⟨⟨o',ho',_,hclo⟩,hprev⟩:=k0W hpre heq
   have hoo:o'=o:=by rw[ho]at ho';exact(Option.some.inj ho').symm
   subst hoo
   simp only[List.nil_append]at hprev
   have hB: ∀k,k<ops.size->bef ops y.i k=true->listed.getD k false=true:=fun k hk hb=>by
    obtain⟨ed,hed,hbd,hor⟩:=hclo k hk hb
    have h1:=haft ed hed hbd
    rcases hor with rfl |h2
    ·exact h1
    ·exact hdc _ _ hk h1 h2
   have huy:unl listed y=true:=by simp[unl,h0]
   have hnl:listed.getD y.i false=false:=by
    have:=hsize y hy
    rw[Array.getD_eq_getD_getElem?,Array.getElem?_eq_getElem (by omega)]at h0⊢
    simpa using h0
   have hne: ∀x∈us++vs,x.i≠y.i:=by
    rw[heq]at hpairs
    intro x hx
    rw[List.pairwise_append,List.pairwise_cons]at hpairs
    rcases mA.1 hx with hx |hx
    ·exact(hpairs.2.2 x hx y (by simp)).2.1
    ·exact fun e=>(hpairs.2.1.1 x hx).2.1 e.symm
   have hsame: ∀x∈us++vs,unl (listed.setIfInBounds y.i true) x=unl listed x:=fun x hx=>by
    simp only[unl];rw[getD_set_ne true (Ne.symm (hne x hx))]
   have hself:unl (listed.setIfInBounds y.i true) y=false:=by
    have:=hsize y hy
    simp[unl,hsz,this]
   have hf1:its.filter (unl listed)=us.filter (unl listed)++y::vs.filter (unl listed):=by
    rw[heq,List.filter_append,List.filter_cons,if_pos huy]
   have hf2:its.filter (unl (listed.setIfInBounds y.i true))=us.filter (unl listed)++vs.filter (unl listed):=by
    rw[heq,List.filter_append,List.filter_cons,hself]
    simp only[bF,iF]
    congr 1
    ·exact List.filter_congr fun x hx=>hsame x (by simp[hx])
    ·exact List.filter_congr fun x hx=>hsame x (by simp[hx])
   have hn1:(its.filter (unl (listed.setIfInBounds y.i true))).length=fuel:=by
    rw[hf1]at hfl;rw[hf2];simp at hfl⊢;omega
   have hdc1: ∀i k,k<ops.size->(listed.setIfInBounds y.i true).getD i false=true->bef ops i k=true->(listed.setIfInBounds y.i true).getD k false=true:=by
    intro i k hk hli hb
    by_cases hiy:i=y.i
    ·subst hiy
     exact getD_set_true (hB k hk hb)
    ·rw[getD_set_ne false (Ne.symm hiy)]at hli
     exact getD_set_true (hdc i k hk hli hb)
   have next: ∀a' w' e' H' φ' ψ' done' β',a'.defers=a.defers->Inv lim call ops its φ0 w0 eF HF (listed.setIfInBounds y.i true) done' β' a' w' e' H' φ' ψ'->wpAny P .any ops Q fuel (listed.setIfInBounds y.i true) a' w':=by
    intro a' w' e' H' φ' ψ' done' β' hd' I'
    obtain⟨done2,e2,H2,φ2,I2,hfr⟩:=q1Z hpre _ done' e' H' φ' rfl I'
    exact ih _ done2 β' a' w' e2 H2 φ2 ψ' (by simpa using hsz) hn1 hdc1 I2 hfr (hd'.trans hd)
   by_cases hp:y.a.allocs=true/\y.g=none
   ·exact j1a I hpre hwait hits hsz hlen hfront heq (fun x hx hb=>hB _ (hsize x hx) hb) hnl hp.1 hp.2 fun a' w' β' hd' I'=>next a' w' e H φ ψ done β' hd' I'
   ·exact j1b hcall I hpre hwait hits hsz hdc hsize hfront heq (fun x hx hb=>hB _ (hsize x hx) hb) hnl hp fun a' w' e' H' φ' ψ' hd' I'=>next a' w' e' H' φ' ψ' _ β hd' I'
end
variable{lim:Nat}{P:Program}
def labels:RC->List Nat
 | .seq a b=>labels a++labels b
 | .cond _ a b j=>(j.map (·.1)).toList++(labels a++labels b)
 | .block _ c=>labels c
 | .loop l _ c=>l::labels c
 |_=>[]
theorem Q1T{call1 call2:CallT}{jump1 jump2:Nat->Env->Heap->Rs}{fin:Env->Heap->Rs}{K1 K2:KT}(hc: ∀f vs H x,call1 f vs H=some x->call2 f vs H=some x)(hj: ∀l e H x,jump1 l e H=some x->jump2 l e H=some x)
  (hK: ∀fl e H x,K1 fl e H=some x->K2 fl e H=some x) (c:RC) (e:Env) (H:Heap) {x:V×Heap} (h:exec lim call1 jump1 fin c e H K1=some x):exec lim call2 jump2 fin c e H K2=some x:=by
 have two: ∀{α:Type} {a b:Option α},(∀x,a=some x->b=some x)->Apx (fun k=>if k=0 then a else b) b:=fun h=>Apx.two h
 have:=j0s (lim:=lim) (fin:=fin) (call:=fun k=>if k=0 then call1 else call2) (call':=call2) (jump:=fun k=>if k=0 then jump1 else jump2) (jump':=jump2)
  (fun f vs H=>by have:=two (hc f vs H);exact⟨fun k y hy=>this.up k y (by cases k<;>simpa using hy)|>fun h=>by cases k<;>simpa using h,fun k y hy=>this.hi k y (by cases k<;>simpa using hy),fun y hy=>⟨1,by simpa using hy⟩⟩)
  (fun f vs H=>by have:=two (hj f vs H);exact⟨fun k y hy=>this.up k y (by cases k<;>simpa using hy)|>fun h=>by cases k<;>simpa using h,fun k y hy=>this.hi k y (by cases k<;>simpa using hy),fun y hy=>⟨1,by simpa using hy⟩⟩)
  c e H (K:=fun k=>if k=0 then K1 else K2) (K':=K2)
  (fun f vs H=>by have:=two (hK f vs H);exact⟨fun k y hy=>this.up k y (by cases k<;>simpa using hy)|>fun h=>by cases k<;>simpa using h,fun k y hy=>this.hi k y (by cases k<;>simpa using hy),fun y hy=>⟨1,by simpa using hy⟩⟩)
 exact this.hi 0 x (by simpa using h)
section find
variable{call:CallT}{jump:Nat->Env->Heap->Rs}{fin:Env->Heap->Rs}{l:Nat}
theorem q0T: ∀(c:RC) (K:KT),l∉labels c->find lim call jump fin l c K=none
 | .skip,_,_=>rfl
 | .ops _,_,_=>rfl
 | .dops _ _ _ _,_,_=>rfl
 | .exit _,_,_=>rfl
 | .ret,_,_=>rfl
 | .stuck,_,_=>rfl
 | .seq a b,K,h=>by
  simp only[labels,mA,not_or]at h
  simp only[find,q0T a _ h.1,q0T b _ h.2];rfl
 | .cond x a b j,K,h=>by
  simp only[labels,mA,not_or]at h
  have hj: ¬(j.map (·.1))=some l:=by
   intro hj;apply h.1;rw[hj];simp
  simp only[find,hj,iF,q0T a _ h.2.1,q0T b _ h.2.2];rfl
 | .block _ c,K,h=>by simp only[find];exact q0T c _ h
 | .loop l' d c,K,h=>by
  simp only[labels,mC,not_or]at h
  have hl: ¬l'=l:=fun e=>h.1 e.symm
  simp only[find,hl,iF];exact q0T c _ h.2
theorem j0m: ∀(c:RC) (K:KT),l∈labels c-> ∃g,find lim call jump fin l c K=some g
 | .skip,_,h=>by simp[labels]at h
 | .ops _,_,h=>by simp[labels]at h
 | .dops _ _ _ _,_,h=>by simp[labels]at h
 | .exit _,_,h=>by simp[labels]at h
 | .ret,_,h=>by simp[labels]at h
 | .stuck,_,h=>by simp[labels]at h
 | .seq a b,K,h=>by
  simp only[find]
  by_cases ha:l∈labels a
  ·obtain⟨g,hg⟩:=j0m a (seqK (fun e' H'=>exec lim call jump fin b e' H' K) K) ha
   exact⟨g,by rw[hg];rfl⟩
  ·rw[q0T a _ ha]
   simp only[labels,mA]at h
   obtain⟨g,hg⟩:=j0m b K (h.resolve_left ha)
   exact⟨g,by rw[hg];rfl⟩
 | .cond x a b j,K,h=>by
  simp only[find]
  by_cases hj:(j.map (·.1))=some l
  ·exact⟨_,by rw[if_pos hj]⟩
  ·rw[if_neg hj]
   by_cases ha:l∈labels a
   ·obtain⟨g,hg⟩:=j0m a (joinK jump j K) ha
    exact⟨g,by rw[hg];rfl⟩
   ·rw[q0T a _ ha]
    simp only[labels,mA]at h
    rcases h with h |h |h
    ·exfalso;apply hj
     cases j with
     |none=>simp at h
     |some p=>simp at h;simp[h]
    ·exact absurd h ha
    ·obtain⟨g,hg⟩:=j0m b (joinK jump j K) h
     exact⟨g,by rw[hg];rfl⟩
 | .block _ c,K,h=>by simp only[find];exact j0m c _ h
 | .loop l' d c,K,h=>by
  simp only[find]
  by_cases hl:l'=l
  ·exact⟨_,by rw[if_pos hl]⟩
  ·rw[if_neg hl]
   simp only[labels,mC]at h
   exact j0m c _ (h.resolve_left (fun e=>hl e.symm))
end find
def nodup:List Nat->Bool
 | []=>true
 |x::xs=> !xs.contains x&&nodup xs
theorem J0x: ∀{l:List Nat},nodup l=true->l.Nodup
 | [],_=>List.nodup_nil
 |x::xs,h=>by
  simp only[nodup,bA,bN,List.contains_eq_mem,dN]at h
  exact List.nodup_cons.2 ⟨h.1,J0x h.2⟩
def chkDraw(P:Program)(ops:Array Oper)(perm ks ts:List Nat)(o:Ops):Bool:=
 match row none o perm with
 |some (its,[])=>P.follows .mixedOrders&&chkRow2 P ops its&&nodup (dsts o)&&(dsts o).all (fun p=>(ks++ts).contains p)&&(W its).all (fun p=>(dsts o).contains p)&&its.all (fun z=> !z.a.allocs||z.a.writes.all (fun p=>ks.contains p))
 |_=>false
def chkRC(P:Program):RC->Code->Bool
 | .skip, .skip=>true
 | .ops o, .region _ ops false=>chkOps P ops none o 0==some ops.size
 | .dops perm ks ts o, .region _ ops true=>chkDraw P ops perm ks ts o
 | .seq a b, .seq x y=>chkRC P a x&&chkRC P b y
 | .cond c a b _, .cond c' x y=>chkX c c'&&chkRC P a x&&chkRC P b y
 | .block id c, .block id' x=>id==id'&&chkRC P c x
 | .loop _ _ c, .loop x=>chkRC P c x
 | .exit id, .exit id'=>id==id'
 | .ret, .ret=>true
 | .stuck,_=>true
 |_,_=>false
def chkRes1(P:Program):Res->ResultVar->Bool
 | .t p, .tmp q=>p==q
 | .cell1 a, .cell b t=>a==b&&scalarT P t
 | .cells a n, .cell b t=>a==b&&aggT P t&&szIs P t n
 |_,_=>false
def chkRes(P:Program):List Res->List ResultVar->Bool
 | [],[]=>true
 |r::rs,x::xs=>chkRes1 P r x&&chkRes P rs xs
 |_,_=>false
def chkFunc(P:Program)(f:FuncId)(rf:RFunc):Bool:=
 match P.funcs[f]? with
 |some fn=>match fn.body with
  |some c=>chkRC P rf.body c&&rf.ntmps==fn.ntmps&&chkRes P rf.res fn.results.toList&&nodup (0::labels rf.body)&& !(fn.name== "runtime.NumGoroutine")
  |none=>false
 |none=>false
theorem k0y{ks ts:List Nat}: ∀{e:Env} {k p:Nat},(Env.cleanFrom ks ts k e)[p]? =(e[p]?).map (T.clean ks ts (k+p))
 | [],k,p=>by simp[Env.cleanFrom]
 |t::e,k,0=>by simp[Env.cleanFrom]
 |t::e,k,p+1=>by
  simp only[Env.cleanFrom,List.getElem?_cons_succ]
  rw[k0y];congr 2;omega
theorem k0z{ks ts:List Nat}{e:Env}{p:Nat}:(Env.clean ks ts e)[p]? =(e[p]?).map (T.clean ks ts p):=by
 unfold Env.clean;rw[k0y,Nat.zero_add]
theorem clean_length{ks ts:List Nat}{e:Env}:(Env.clean ks ts e).length=e.length:=by
 unfold Env.clean
 generalize 0=k
 induction e generalizing k with
 |nil=>rfl
 |cons t e ih=>simp only[Env.cleanFrom,List.length_cons,ih]
theorem clean_free{ks ts:List Nat}{e:Env}:Free (Env.clean ks ts e) (ks++ts):=by
 have key: ∀s t,Env.get (Env.clean ks ts e) s=t->t≠ .poison-> ∃u,e[s]? =some u/\t=T.clean ks ts s u:=fun s t h ht=>by
  have:=Env.get_eq h ht
  rw[k0z]at this
  obtain⟨u,hu,he⟩:=oM.1 this
  exact⟨u,hu,he.symm⟩
 intro p hp
 rw[mA]at hp
 refine⟨fun cs hc=> ?_,fun s o hs=> ?_⟩
 ·obtain⟨u,_,hu⟩:=key p _ hc (by simp)
  unfold T.clean at hu
  split at hu
  ·cases hu
  ·rename_i hk
   simp only[List.contains_eq_mem,dE]at hk
   have hts:=hp.resolve_left hk
   cases u with
   |loc cs=>simp[hts]at hu
   |laddr q o=>simp only at hu;split at hu<;>cases hu
   |_=>cases hu
 ·obtain⟨u,_,hu⟩:=key s _ hs (by simp)
  unfold T.clean at hu
  split at hu
  ·cases hu
  ·cases u with
   |loc cs=>simp only at hu;split at hu<;>cases hu
   |laddr q o=>
    simp only at hu
    split at hu
    ·cases hu
    ·rename_i hq
     cases hu
     simp only[Bool.or_eq_true,List.contains_eq_mem,dE,not_or]at hq
     exact hp.elim hq.1 hq.2
   |_=>cases hu
theorem ERel.clean{base:Nat}{φ:Phi}{ψ:Nat->Nat}{e:Env}{tm:Array Value}{w:World}(h:ERel lim base φ ψ e tm w)(ks ts:List Nat):ERel lim base φ ψ (Env.clean ks ts e) tm w:=by
 have key: ∀p t,(Env.clean ks ts e)[p]? =some t->t= .poison\/(e[p]? =some t/\p∉ks/\(∀cs,t= .loc cs->p∉ts)/\ ∀q o,t= .laddr q o->q∉ks/\q∉ts):=fun p t ht=>by
  rw[k0z]at ht
  obtain⟨u,hu,he⟩:=oM.1 ht
  unfold T.clean at he
  split at he
  ·exact .inl he.symm
  ·rename_i hk
   simp only[List.contains_eq_mem,dE]at hk
   cases u with
   |loc cs=>
    simp only[List.contains_eq_mem,dE]at he
    split at he
    ·exact .inl he.symm
    ·rename_i h2;subst he;exact .inr ⟨hu,hk,fun _ _=>h2,fun q o h=>(by cases h)⟩
   |laddr q o=>
    simp only[Bool.or_eq_true,List.contains_eq_mem,dE]at he
    split at he
    ·exact .inl he.symm
    ·rename_i h2;subst he;exact .inr ⟨hu,hk,fun _ h=>(by cases h),fun q' o' h=>(by cases h;exact⟨fun h=>h2 (.inl h),fun h=>h2 (.inr h)⟩)⟩
   |poison=>exact .inl he.symm
   |val v=>simp only at he;subst he;exact .inr ⟨hu,hk,fun _ h=>(by cases h),fun q' o' h=>(by cases h)⟩
 have hloc: ∀(p:Nat) cs,(Env.clean ks ts e)[p]? =some (.loc cs)->e[p]? =some (.loc cs):=fun p cs hp=>by
  rcases key p _ hp with h |h
  ·cases h
  ·exact h.1
 refine⟨clean_length.trans h.len,fun p t ht=> ?_,fun p q cs cs' hp hq e'=>h.inj p q cs cs' (hloc _ _ hp) (hloc _ _ hq) e',fun p cs hp=>h.low p cs (hloc _ _ hp)⟩
 rcases key p t ht with rfl |⟨h1,h2,h3,h4⟩
 ·have hlt:p<tm.size:=by rw[<-h.len,<-clean_length (ks:=ks) (ts:=ts)];exact(gE.1 ht).1
  exact⟨tm[p],by simp[hlt],trivial⟩
 ·obtain⟨x,hx,hr⟩:=h.tmp p t h1
  refine⟨x,hx, ?_⟩
  cases t with
  |poison=>trivial
  |val v=>exact hr
  |loc cs=>exact hr
  |laddr q o=>
   obtain⟨h5,cs,h6⟩:=hr
   obtain⟨h7,h8⟩:=h4 q o rfl
   refine⟨h5,cs, ?_⟩
   rw[k0z,h6]
   simp[T.clean,h7,h8]
theorem HRel.drewN{φ:Phi}{H:Heap}{w:World}(h:HRel lim φ H w)(n:Nat):HRel lim φ H {w with drawn:=n}:=⟨h.low,h.dom,h.bound,h.cells,h.maps,h.inj⟩
theorem ERel.drewN{base:Nat}{φ:Phi}{ψ:Nat->Nat}{e:Env}{tm:Array Value}{w:World}(h:ERel lim base φ ψ e tm w)(n:Nat):ERel lim base φ ψ e tm {w with drawn:=n}:=by
 refine⟨h.len,fun p t ht=> ?_,h.inj,h.low⟩
 obtain⟨x,hx,hr⟩:=h.tmp p t ht
 refine⟨x,hx, ?_⟩
 cases t<;>exact hr
theorem Ext.drewN{φ0 φ:Phi}{w0 w:World}(h:Ext lim φ0 w0 φ w)(n:Nat):Ext lim φ0 w0 φ {w with drawn:=n}:=⟨h.mono,h.fresh,h.size,h.same,h.os,h.tape,h.output,h.froz⟩
section code
variable{ext:FuncId->Env->Heap->Rs}{prog:FuncId->Option RFunc}{f:FuncId}{rf:RFunc}{φ0:Phi}{w0:World}{r:V×Heap}
def Good(lim:Nat)(φ0:Phi)(w0:World)(r:V×Heap)(G:Env->Heap->Rs)(a:Act)(w:World):Prop:=
 ∃e H φ ψ,G e H=some r/\ERel lim w0.heap.size φ ψ e a.tmps w/\HRel lim φ H w/\Ext lim φ0 w0 φ w/\a.defers=[]
def QK(lim:Nat)(φ0:Phi)(w0:World)(r:V×Heap)(fin:Env->Heap->Rs)(K:KT):Exit->Act->World->Prop
 | .normal,a,w=>Good lim φ0 w0 r (K .normal) a w
 | .exit id,a,w=>Good lim φ0 w0 r (K (.exit id)) a w
 | .ret,a,w=>Good lim φ0 w0 r fin a w
 |_,_,_=>False
def Holds(ext:FuncId->Env->Heap->Rs)(prog:FuncId->Option RFunc)(lim:Nat)(P:Program)(f:FuncId)(rf:RFunc)(k:Nat)(c:RC):Prop:=
 ∀(x:Code) (K:Nat->KT),chkRC P c x=true->(labels c).Nodup->(∀j fl e H y,K j fl e H=some y->K (j+1) fl e H=some y)->
  (∀j l,l∈labels c->find lim (callOf (runN ext prog lim j)) (runN ext prog lim j f) (finish rf) l rf.body (endK rf)=find lim (callOf (runN ext prog lim j)) (runN ext prog lim j f) (finish rf) l c (K j))->
  ∀(φ0:Phi) (w0:World) (r:V×Heap) (e:Env) (H:Heap) (φ:Phi) (ψ:Nat->Nat) (a:Act) (w:World),
   exec lim (callOf (runN ext prog lim k)) (runN ext prog lim k f) (finish rf) c e H (K k)=some r->ERel lim w0.heap.size φ ψ e a.tmps w->HRel lim φ H w->Ext lim φ0 w0 φ w->a.defers=[]->
   x.wp P (QK lim φ0 w0 r (finish rf) (K k)) a w
theorem k1v{α:Type}{g:Nat->Option α}(h: ∀j y,g j=some y->g (j+1)=some y){j k:Nat}(hjk:j<=k){y:α}(hy:g j=some y):g k=some y:=by
 obtain⟨d,rfl⟩:=Nat.exists_eq_add_of_le hjk
 clear hjk
 induction d with
 |zero=>exact hy
 |succ d ih=>exact h _ _ ih
theorem j1d(hp:prog f=some rf)(h0:0∉labels rf.body){k l:Nat}{e:Env}{H:Heap}(hl:l∈labels rf.body)(h:runN ext prog lim k f l e H=some r):
  ∃k' g,k=k'+1/\find lim (callOf (runN ext prog lim k')) (runN ext prog lim k' f) (finish rf) l rf.body (endK rf)=some g/\g e H=some r:=by
 cases k with
 |zero=>simp[runN]at h
 |succ k'=>
  have hl0:l≠0:=fun e=>h0 (e▸hl)
  simp only[runN,stepR,hp,hl0,iF]at h
  split at h
  ·rename_i g hg;exact⟨k',g,rfl,hg,h⟩
  ·cases h
theorem j1e(hp:prog f=some rf)(h0:0∉labels rf.body): ∀(k:Nat),(∀j,j<=k->CallOK lim P (callOf (runN ext prog lim j)))-> ∀(c:RC),(∀l∈labels c,l∈labels rf.body)->Holds ext prog lim P f rf k c:=by
 intro k
 induction k using Nat.strongRecOn with
 |_ k ihk=>
  intro hcall c
  have hup: ∀j g l e H y,runN ext prog lim j g l e H=some y->runN ext prog lim (j+1) g l e H=some y:=fun j g l e H y h=>J0a ext prog lim j g l e H y h
  induction c with
  |skip=>
   intro hlab x K hx hnd hmono hcons φ0 w0 r e H φ ψ a w h he hH hext hd
   cases x<;>simp[chkRC]at hx
   exact wp_skip ⟨e,H,φ,ψ,h,he,hH,hext,hd⟩
  |exit id=>
   intro hlab x K hx hnd hmono hcons φ0 w0 r e H φ ψ a w h he hH hext hd
   cases x<;>simp[chkRC]at hx
   subst hx
   exact wp_exit ⟨e,H,φ,ψ,h,he,hH,hext,hd⟩
  |ret=>
   intro hlab x K hx hnd hmono hcons φ0 w0 r e H φ ψ a w h he hH hext hd
   cases x<;>simp[chkRC]at hx
   exact wp_ret ⟨e,H,φ,ψ,h,he,hH,hext,hd⟩
  |stuck=>
   intro hlab x K hx hnd hmono hcons φ0 w0 r e H φ ψ a w h he hH hext hd
   simp[exec]at h
  |ops o=>
   intro hlab x K hx hnd hmono hcons φ0 w0 r e H φ ψ a w h he hH hext hd
   cases x<;>try (simp[chkRC]at hx;done)
   rename_i id ops draw
   cases draw
   case true=>simp[chkRC]at hx
   simp only[chkRC,beq_iff_eq]at hx
   simp only[exec]at h
   refine wp_region ?_
   have:=Z0j (hcall k (nR k)) (ops:=ops) (Q:=QK lim φ0 w0 r (finish rf) (K k)) (φ0:=φ0) (w0:=w0) o (fun e' H'=>K k .normal e' H') r none 0 ops.size a e H φ ψ w [] hx trivial h he hH hext
    (fun e' H' φ' ψ' a' w' hk hl=>by
     simp only[wpOps]
     exact⟨e',H',φ',ψ',hk,hl.env,hl.heap,hl.ext,hl.defers.trans hd⟩)
   simpa[List.range_eq_range']using this
  |dops perm ks ts o=>
   intro hlab x K hx hnd hmono hcons φ0 w0 r e H φ ψ a w h he hH hext hd
   cases x<;>try (simp[chkRC]at hx;done)
   rename_i id ops draw
   cases draw
   case false=>simp[chkRC]at hx
   simp only[chkRC,chkDraw]at hx
   split at hx
   ·rename_i its hr
    simp only[bA,List.all_eq_true,List.contains_eq_mem,dE]at hx
    obtain⟨⟨⟨⟨⟨hm,hrow⟩,hndd⟩,hsub⟩,hW⟩,hks⟩:=hx
    simp only[exec]at h
    split at h
    ·rename_i hlen
     simp only[List.all_eq_true,dE]at hlen
     have hfree:Free (Env.clean ks ts e) (dsts o):=clean_free.sub hsub
     obtain⟨eF,HF,h1,h2,_⟩:=Q1P o (fun e' H'=>K k .normal e' H') r none perm [] its (Env.clean ks ts e) H hr trivial (J0x hndd) hfree (fun p hp=>by rw[clean_length];exact hlen p (hsub p hp)) h
     refine wp_region_any hm ?_
     have hall:its.filter (unl (Array.replicate ops.size false))=its:=by
      refine List.filter_eq_self.2 fun it hit=> ?_
      have hrow':=hrow
      simp only[chkRow2,bA,List.all_eq_true]at hrow'
      have:=hrow'.1.1.1.1 it hit
      unfold chkIt at this
      split at this
      ·rename_i o' ho'
       have:=(Array.getElem?_eq_some_iff.1 ho').1
       simp[unl,this]
      ·cases this
     have hl:its.length=ops.size:=by
      simp only[chkRow2,bA,beq_iff_eq]at hrow;exact hrow.1.1.1.2
     have h0: ∀i:Nat,(Array.replicate ops.size false).getD i false=false:=fun i=>by
      rw[Array.getD_eq_getD_getElem?,Array.getElem?_replicate]
      split<;>simp
     have hund:its.filter (undone fun _=>false)=its:=List.filter_eq_self.2 fun it hit=>rfl
     refine j1c (hcall k (nR k)) (Q:=QK lim φ0 w0 r (finish rf) (K k)) (φ0:=φ0) (w0:=w0) hrow (eF:=eF) (HF:=HF) (d0:=[]) (fun z hz p hp=> ?_) (fun a' w' φ' ψ' he' hH' hx' hd'=>⟨eF,HF,φ',ψ',h1,he',hH',hx',hd'⟩)
      ops.size (Array.replicate ops.size false) (fun _=>false) (fun _=>0) a _ (Env.clean ks ts e) H φ ψ (by simp) (by rw[hall,hl]) (fun i j hj hi=> ?_)
      ⟨fun y hy h=>(by simp at h),fun y hy _ h=>(by rw[h0]at h;cases h),fun y hy z hz _ _ h=>(by rw[h0]at h;cases h),(by rw[hund];exact h2),(by rw[hund];exact hfree.sub hW),fun y hy _ d o' ha hal t ht=> ?_,(he.clean ks ts).drewN _,hH.drewN _,hext.drewN _⟩
      (fun us y vs _ _ h=>by rw[h0]at h;cases h) hd
     ·have:=hW p (by simp only[W,List.mem_flatMap];exact⟨z,hz,hp⟩)
      rw[J0w h2,clean_length];exact hlen p (hsub p this)
     ·rw[h0]at hi;cases hi
     ·have:=hks y hy
      rw[ha]at this
      have hal':At.allocs (.op (some d) o')=true:=hal
      simp only[hal',Bool.not_true,Bool.false_or,At.writes,Option.toList,List.all_cons,List.all_nil,Bool.and_true,List.contains_eq_mem,dE]at this
      rw[k0z]at ht
      obtain⟨u,hu,rfl⟩:=oM.1 ht
      simp[T.clean,this]
    ·cases h
   ·cases hx
  |seq c1 c2 ih1 ih2=>
   intro hlab x K hx hnd hmono hcons φ0 w0 r e H φ ψ a w h he hH hext hd
   cases x<;>simp[chkRC]at hx
   rename_i x1 x2
   simp only[labels,List.nodup_append]at hnd
   simp only[exec]at h
   refine wp_seq ?_
   have hm1: ∀j fl e H y,seqK (fun e' H'=>exec lim (callOf (runN ext prog lim j)) (runN ext prog lim j f) (finish rf) c2 e' H' (K j)) (K j) fl e H=some y->
     seqK (fun e' H'=>exec lim (callOf (runN ext prog lim (j+1))) (runN ext prog lim (j+1) f) (finish rf) c2 e' H' (K (j+1))) (K (j+1)) fl e H=some y:=by
    intro j fl e H y hy
    cases fl with
    |normal=>exact Q1T (fun g vs H x h=>hup j g 0 _ H x h) (fun l e H x h=>hup j f l e H x h) (hmono j) c2 e H hy
    |exit id=>exact hmono j _ _ _ _ hy
   have h1:=ih1 (fun l hl=>hlab l (by simp[labels,hl])) x1 (fun j=>seqK (fun e' H'=>exec lim (callOf (runN ext prog lim j)) (runN ext prog lim j f) (finish rf) c2 e' H' (K j)) (K j)) hx.1 hnd.1 hm1
    (fun j l hl=>by
     rw[hcons j l (by simp[labels,hl])]
     obtain⟨g,hg⟩:=j0m (lim:=lim) (call:=callOf (runN ext prog lim j)) (jump:=runN ext prog lim j f) (fin:=finish rf) c1 (seqK (fun e' H'=>exec lim (callOf (runN ext prog lim j)) (runN ext prog lim j f) (finish rf) c2 e' H' (K j)) (K j)) hl
     simp only[find,hg];rfl) φ0 w0 r e H φ ψ a w h he hH hext hd
   refine wp_mono h1 fun ex a' w' hq=> ?_
   cases ex with
   |normal=>
    obtain⟨e',H',φ',ψ',g1,g2,g3,g4,g5⟩:=hq
    exact ih2 (fun l hl=>hlab l (by simp[labels,hl])) x2 K hx.2 hnd.2.1 hmono
     (fun j l hl=>by
      rw[hcons j l (by simp[labels,hl])]
      have hn:l∉labels c1:=fun h1=>hnd.2.2 l h1 l hl rfl
      simp only[find];rw[q0T c1 _ hn];rfl) φ0 w0 r e' H' φ' ψ' a' w' g1 g2 g3 g4 g5
   |exit id=>exact hq
   |ret=>exact hq
   |_=>exact hq
  |cond xx c1 c2 j ih1 ih2=>
   intro hlab x K hx hnd hmono hcons φ0 w0 r e H φ ψ a w h he hH hext hd
   cases x<;>simp[chkRC]at hx
   rename_i y x1 x2
   obtain⟨⟨hxc,hx1⟩,hx2⟩:=hx
   simp only[labels,List.nodup_append]at hnd
   obtain⟨hnj,⟨hn1,hn2,hn12⟩,hnj2⟩:=hnd
   simp only[exec]at h
   obtain⟨b,hb,h⟩:=oB.1 h
   have hcv:=z0c he hxc hb
   have hm1: ∀i fl e H y,joinK (runN ext prog lim i f) j (K i) fl e H=some y->joinK (runN ext prog lim (i+1) f) j (K (i+1)) fl e H=some y:=by
    intro i fl e H y hy
    cases j with
    |none=>exact hmono i _ _ _ _ hy
    |some p=>
     cases fl with
     |normal=>exact hup i f p.1 _ H y hy
     |exit id=>exact hmono i _ _ _ _ hy
   have hfin: ∀ex a' w',QK lim φ0 w0 r (finish rf) (joinK (runN ext prog lim k f) j (K k)) ex a' w'->QK lim φ0 w0 r (finish rf) (K k) ex a' w':=by
    intro ex a' w' hq
    cases j with
    |none=>exact hq
    |some p=>
     obtain⟨l,dead⟩:=p
     cases ex with
     |normal=>
      obtain⟨e',H',φ',ψ',g1,g2,g3,g4,g5⟩:=hq
      have hl:l∈labels (.cond xx c1 c2 (some (l,dead))):=by simp[labels]
      obtain⟨k',g,rfl,hg,hr⟩:=j1d hp h0 (hlab l hl) g1
      rw[hcons k' l hl]at hg
      simp only[find,Option.map_some,iT,oI]at hg
      subst hg
      exact⟨_,H',φ',ψ',hmono k' _ _ _ _ hr,g2.kill dead,g3,g4,g5⟩
     |exit id=>exact hq
     |ret=>exact hq
     |_=>exact hq
   have hnj': ∀l,(l∈labels c1\/l∈labels c2)-> ¬(j.map (·.1))=some l:=by
    intro l hl e'
    exact hnj2 l (by rw[e'];simp) l (mA.2 hl) rfl
   refine wp_cond hcv ?_
   cases b with
   |true=>
    simp only[iT]at h⊢
    refine wp_mono (ih1 (fun l hl=>hlab l (by simp[labels,hl])) x1 (fun i=>joinK (runN ext prog lim i f) j (K i)) hx1 hn1 hm1 (fun i l hl=> ?_) φ0 w0 r e H φ ψ a w h he hH hext hd) hfin
    rw[hcons i l (by simp[labels,hl])]
    obtain⟨g,hg⟩:=j0m (lim:=lim) (call:=callOf (runN ext prog lim i)) (jump:=runN ext prog lim i f) (fin:=finish rf) c1 (joinK (runN ext prog lim i f) j (K i)) hl
    simp only[find,hnj' l (.inl hl),iF,hg];rfl
   |false=>
    simp only[bF,iF]at h⊢
    refine wp_mono (ih2 (fun l hl=>hlab l (by simp[labels,hl])) x2 (fun i=>joinK (runN ext prog lim i f) j (K i)) hx2 hn2 hm1 (fun i l hl=> ?_) φ0 w0 r e H φ ψ a w h he hH hext hd) hfin
    rw[hcons i l (by simp[labels,hl])]
    have hn:l∉labels c1:=fun h1=>hn12 l h1 l hl rfl
    simp only[find,hnj' l (.inr hl),iF];rw[q0T c1 _ hn];rfl
  |block id c ih=>
   intro hlab x K hx hnd hmono hcons φ0 w0 r e H φ ψ a w h he hH hext hd
   cases x<;>simp[chkRC]at hx
   rename_i id' x1
   obtain⟨rfl,hx1⟩:=hx
   simp only[exec]at h
   refine wp_block (wp_mono (ih hlab x1 (fun i=>blockK id (K i)) hx1 hnd (fun i fl e H y hy=> ?_) (fun i l hl=>by rw[hcons i l hl];rfl) φ0 w0 r e H φ ψ a w h he hH hext hd) fun ex a' w' hq=> ?_)
   ·cases fl with
    |normal=>exact hmono i _ _ _ _ hy
    |exit i'=>
     simp only[blockK]at hy⊢
     split at hy
     ·rename_i hh;rw[if_pos hh];exact hmono i _ _ _ _ hy
     ·rename_i hh;rw[if_neg hh];exact hmono i _ _ _ _ hy
   ·cases ex with
    |normal=>exact hq
    |exit i'=>
     obtain⟨e',H',φ',ψ',g1,g2⟩:=hq
     simp only[blockK]at g1
     simp only[Exit.inBlock]
     split at g1
     ·rename_i hh;rw[if_pos hh];exact⟨e',H',φ',ψ',g1,g2⟩
     ·rename_i hh;rw[if_neg hh];exact⟨e',H',φ',ψ',g1,g2⟩
    |ret=>exact hq
    |_=>exact hq
  |loop l dead c ih=>
   intro hlab x K hx hnd hmono hcons φ0 w0 r e H φ ψ a w h he hH hext hd
   cases x<;>simp[chkRC]at hx
   rename_i x1
   simp only[exec]at h
   simp only[labels,List.nodup_cons]at hnd
   have hll:l∈labels (.loop l dead c):=by simp[labels]
   have hmK: ∀(i:Nat) fl e H y,loopK (runN ext prog lim i f) l dead (K i) fl e H=some y->loopK (runN ext prog lim (i+1) f) l dead (K (i+1)) fl e H=some y:=by
    intro i fl e H y hy
    cases fl with
    |normal=>exact hup i f l _ H y hy
    |exit id=>exact hmono i _ _ _ _ hy
   have rounds: ∀(m:Nat),m<=k-> ∀(e:Env) (H:Heap) (φ:Phi) (ψ:Nat->Nat) (a:Act) (w:World),runN ext prog lim m f l e H=some r->ERel lim w0.heap.size φ ψ e a.tmps w->HRel lim φ H w->Ext lim φ0 w0 φ w->a.defers=[]->
     ∀(b:Frame) (kk:List Item) (cs:List Frame),∃ex a' w',QK lim φ0 w0 r (finish rf) (K k) ex a' w'/\Arrives P (lone (b.at a (.code x1:: .inLoop x1::kk)) cs w) b kk cs ex a' w':=by
    intro m
    induction m using Nat.strongRecOn with
    |_ m ihm=>
     intro hmk e H φ ψ a w hrun he hH hext hd b kk cs
     obtain⟨m',g,rfl,hg,hr⟩:=j1d hp h0 (hlab l hll) hrun
     rw[hcons m' l hll]at hg
     simp only[find,iT,oI]at hg
     subst hg
     have hw:=ihk m' (by omega) (fun j hj=>hcall j (by omega)) c (fun l' hl'=>hlab l' (by simp[labels,hl'])) x1 (fun i=>loopK (runN ext prog lim i f) l dead (K i)) hx hnd.2 hmK
      (fun i l' hl'=>by
       rw[hcons i l' (by simp[labels,hl'])]
       have hne: ¬l=l':=fun e'=>hnd.1 (e'▸hl')
       simp only[find,hne,iF]) φ0 w0 r e H φ ψ a w hr he hH hext hd
     obtain⟨ex,a1,w1,hq,harr⟩:=hw b (.inLoop x1::kk) cs
     cases ex with
     |normal=>
      obtain⟨e',H',φ',ψ',g1,g2,g3,g4,g5⟩:=hq
      obtain⟨ex2,a2,w2,hq2,harr2⟩:=ihm m' (by omega) (by omega) (Env.kill dead e') H' φ' ψ' a1 w1 g1 (g2.kill dead) g3 g4 g5 b kk cs
      exact⟨ex2,a2,w2,hq2, .of_steps (Steps.trans harr (.one step_inLoop)) harr2⟩
     |exit id=>
      refine⟨.exit id,a1,w1, ?_, .pass (x:= .inLoop x1) rfl (fun _ _=> .inl (by simp)) harr⟩
      obtain⟨e',H',φ',ψ',g1,g2⟩:=hq
      exact⟨e',H',φ',ψ',k1v (fun j y hy=>hmono j _ _ _ _ hy) (by omega) g1,g2⟩
     |ret=>exact⟨.ret,a1,w1,hq, .pass (x:= .inLoop x1) rfl (fun _ _=> .inl (by simp)) harr⟩
     |goto _=>exact hq.elim
     |panic _=>exact hq.elim
     |outgrown=>exact hq.elim
   intro b kk cs
   obtain⟨ex,a',w',hq,harr⟩:=rounds k (nR k) _ H φ ψ a w h (he.kill dead) hH hext hd b kk cs
   exact⟨ex,a',w',hq, .of_steps (.one step_loop) harr⟩
theorem k1w{φ:Phi}{ψ:Nat->Nat}{e:Env}{H:Heap}{ts:Array Value}{base:Nat}{w:World}(he:ERel lim base φ ψ e ts w)(hH:HRel lim φ H w){q:Res}{x:ResultVar}(hc:chkRes1 P q x=true){v:V}(h:res1 e H q=some v):
  ∃u,(match x with | .tmp t=>pure (ts.getD t undef) | .cell a t=>do loadVar t (<-asAddr (ts.getD a undef)):Sem Value).run P w= .ok u w/\VRel lim φ v u:=by
 have hE:ERel lim base φ ψ e ({tmps:=ts,defers:=[]}:Act).tmps w:=he
 cases q with
 |t p=>
  cases x<;>simp[chkRes1]at hc
  subst hc
  exact⟨_,rfl,q0R hE (x:= .t p) (y:= .tmp p) (by simp[chkX]) h⟩
 |cell1 a=>
  cases x<;>simp[chkRes1]at hc
  rename_i b t
  obtain⟨rfl,hs⟩:=hc
  simp only[res1]at h
  rcases q0x h with⟨p,o,hpl,h⟩ |⟨i,o,hpl,h⟩
  ·obtain⟨hv,cs,h1,h2⟩:=q0q hE (x:= .t a) (y:= .tmp a) (by simp[chkX]) hpl
   simp only[Act.eval]at hv
   obtain⟨cs',hcs,h⟩:=oB.1 h
   have:=j0i hcs h1;subst this
   obtain⟨c,hcc,h⟩:=oB.1 h
   cases h
   obtain⟨u,hu,hr⟩:=h2.cell hcc
   exact⟨u,by simp[hv,asAddr,z0f hs hu], .c hr⟩
  ·obtain⟨p,hp,hv⟩:=q0q hE (x:= .t a) (y:= .tmp a) (by simp[chkX]) hpl
   simp only[Act.eval]at hv
   obtain⟨c,hcc,h⟩:=oB.1 h
   cases h
   obtain⟨u,hu,hr⟩:=hH.ld hcc hp
   exact⟨u,by simp[hv,asAddr,z0f hs hu], .c hr⟩
 |cells a n=>
  cases x<;>simp[chkRes1]at hc
  rename_i b t
  obtain⟨⟨rfl,hs⟩,hn⟩:=hc
  simp only[res1]at h
  rcases q0x h with⟨p,o,hpl,h⟩ |⟨i,o,hpl,h⟩
  ·obtain⟨hv,cs,h1,h2⟩:=q0q hE (x:= .t a) (y:= .tmp a) (by simp[chkX]) hpl
   simp only[Act.eval]at hv
   obtain⟨cs',hcs,h⟩:=oB.1 h
   have:=j0i hcs h1;subst this
   split at h
   ·rename_i hle
    cases h
    obtain⟨A,hA,hr⟩:=h2.cells (P:=P) hle
    exact⟨.agg A,by simp[hv,asAddr,q0Y hs hn hA], .agg hr⟩
   ·cases h
  ·obtain⟨p,hp,hv⟩:=q0q hE (x:= .t a) (y:= .tmp a) (by simp[chkX]) hpl
   simp only[Act.eval]at hv
   obtain⟨xs,hxs,h⟩:=oB.1 h
   cases h
   obtain⟨A,hA,hr,_⟩:=hH.ldN (P:=P) hxs hp
   exact⟨.agg A,by simp[hv,asAddr,q0Y hs hn hA], .agg hr⟩
theorem Q0G{φ:Phi}{ψ:Nat->Nat}{e:Env}{H:Heap}{ts:Array Value}{base:Nat}{w:World}(he:ERel lim base φ ψ e ts w)(hH:HRel lim φ H w): ∀(qs:List Res) (xs:List ResultVar) {vs:List V},chkRes P qs xs=true->resAll e H qs=some vs->
  ∃us,(xs.mapM fun x=>(match x with | .tmp t=>pure (ts.getD t undef) | .cell a t=>do loadVar t (<-asAddr (ts.getD a undef)):Sem Value)).run P w= .ok us w/\VsRel lim φ vs us
 | [],[],_,_,h=>by simp only[resAll,oI]at h;subst h;exact⟨[],by simp, .nil⟩
 |q::qs,x::xs,_,hc,h=>by
  simp only[chkRes,bA]at hc
  simp only[resAll]at h
  obtain⟨v,hv,h⟩:=oB.1 h
  obtain⟨vs,hvs,h⟩:=oB.1 h
  cases h
  obtain⟨u,h1,h2⟩:=k1w (P:=P) he hH hc.1 hv
  obtain⟨us,h3,h4⟩:=Q0G he hH qs xs hc.2 hvs
  exact⟨u::us,by simp only[List.mapM_cons,Sem.run_bind,h1,Result.andThen_ok,h3,Sem.run_pure], .cons h2 h4⟩
 | [],_::_,_,hc,_=>by simp[chkRes]at hc
 |_::_,[],_,hc,_=>by simp[chkRes]at hc
theorem Y0h{φ:Phi}{ψ:Nat->Nat}{e:Env}{H:Heap}{ts:Array Value}{base:Nat}{w:World}(he:ERel lim base φ ψ e ts w)(hH:HRel lim φ H w){fn:Func}(hc:chkRes P rf.res fn.results.toList=true)(h:finish rf e H=some r):
  ∃u,(results fn ts).run P w= .ok u w/\VRel lim φ r.1 u/\r.2=H:=by
 unfold finish at h
 obtain⟨vs,hvs,h⟩:=oB.1 h
 obtain⟨us,h1,h2⟩:=Q0G (P:=P) he hH _ _ hc hvs
 have hm:(fn.results.mapM fun x=>(match x with | .tmp t=>pure (ts.getD t undef) | .cell a t=>do loadVar t (<-asAddr (ts.getD a undef)):Sem Value)).run P w= .ok us.toArray w:=by
  rw[Array.mapM_eq_mapM_toList];simp only[Sem.run_map,h1,Result.andThen_ok]
 have hlen:=h2.length
 have hres:(results fn ts).run P w= .ok (if h:us.toArray.size=1 then us.toArray[0]else .tuple us.toArray) w:=by
  unfold results
  simp only[Sem.run_bind]
  have he2:(fun x=>(match x with | .tmp t=>pure (ts.getD t undef) | .cell a t=>do loadVar t (<-asAddr (ts.getD a undef)):Sem Value))=fun(x:ResultVar)=>(match x with | .tmp t=>pure (ts.getD t undef) | .cell a t=>do loadVar t (<-asAddr (ts.getD a undef)):Sem Value):=rfl
  first |(rw[hm];rfl) |(simp only[hm];rfl) |exact(congrArg (fun r=>Result.andThen r _) hm)
 rw[hres]
 split at h
 ·rename_i v
  cases h
  cases h2 with
  |cons a b=>cases b with
   |nil=>exact⟨_,rfl,by simpa using a,rfl⟩
 ·rename_i vs' hne
  cases h
  have:us.length≠1:=by
   intro h1'
   rw[h1']at hlen
   obtain⟨v,hv⟩:=List.length_eq_one_iff.1 hlen
   exact hne v hv
  refine⟨_,rfl, ?_,rfl⟩
  simp only[List.size_toArray,this,dif_neg,not_false_eq_true]
  exact .tuple (by simpa using h2)
theorem j1f{φ:Phi}{w:World}{vs:List V}{args:Array Value}(h:VsRel lim φ vs args.toList)(n:Nat):
  ERel lim w.heap.size φ (fun _=>0) (vs.map .val++List.replicate (n - (vs.map T.val).length) .poison) (args++Array.replicate (n - args.size) undef) w:=by
 have hl:=h.length
 simp only[Array.length_toList]at hl
 have key: ∀(p:Nat) t,(vs.map T.val++List.replicate (n - (vs.map T.val).length) .poison)[p]? =some t->(∃v,t= .val v/\vs[p]? =some v)\/(t= .poison/\args.size<=p):=by
  intro p t ht
  by_cases hp:p<vs.length
  ·rw[List.getElem?_append_left (by simpa using hp),List.getElem?_map]at ht
   simp only[List.getElem?_eq_getElem hp,Option.map_some,oI]at ht
   exact .inl ⟨_,ht.symm,by simp[hp]⟩
  ·rw[List.getElem?_append_right (by simpa using hp),List.getElem?_replicate]at ht
   split at ht
   ·cases ht;exact .inr ⟨rfl,by omega⟩
   ·cases ht
 refine⟨by simp[hl],fun p t ht=> ?_,fun p q cs cs' hp _ _=> ?_,fun p cs hp=> ?_⟩
 ·have hlt:=(gE.1 ht).1
  simp only[List.length_append,List.length_map,List.length_replicate]at hlt
  rcases key p t ht with⟨v,rfl,hv⟩ |⟨rfl,hp⟩
  ·obtain⟨u,hu,hr⟩:=h.get hv
   have hps:p<args.size:=by have:=(gE.1 hu).1;simpa using this
   exact⟨u,by rw[Array.getElem?_append_left hps];simpa using hu,hr⟩
  ·refine⟨undef, ?_,trivial⟩
   rw[Array.getElem?_append_right hp,Array.getElem?_replicate]
   rw[if_pos (by omega)]
 ·rcases key p _ hp with⟨v,h1,_⟩ |⟨h1,_⟩<;>cases h1
 ·rcases key p _ hp with⟨v,h1,_⟩ |⟨h1,_⟩<;>cases h1
theorem X0g{prog:FuncId->Option RFunc}(hext0:CallOK lim P (fun f vs H=>ext f (vs.map .val) H))(hprog: ∀f rf,prog f=some rf->chkFunc P f rf=true): ∀(k:Nat),CallOK lim P (callOf (runN ext prog lim k)):=by
 intro k
 induction k using Nat.strongRecOn with
 |_ k ih=>
  intro f vs H r H' h
  cases k with
  |zero=>simp[callOf,runN]at h
  |succ k=>
   simp only[callOf,runN,stepR]at h
   split at h
   ·simp only[iT]at h
    exact hext0 f vs H r H' h
   ·rename_i rf hp
    simp only[iT]at h
    have hf:=hprog f rf hp
    unfold chkFunc at hf
    split at hf
    ·rename_i fn hfn
     split at hf
     ·rename_i c hbody
      simp only[bA,beq_iff_eq,bN]at hf
      obtain⟨⟨⟨⟨h1,h2⟩,h3⟩,h4⟩,h5⟩:=hf
      have hnd:=J0x h4
      rw[List.nodup_cons]at hnd
      refine⟨⟨fn,c,hfn,hbody,h5⟩,fun φ w args hH hvs=> ?_⟩
      have hw:=j1e (lim:=lim) (P:=P) (f:=f) hp hnd.1 k (fun j hj=>ih j (by omega)) rf.body (fun l hl=>hl) c (fun _=>endK rf) h1 hnd.2 (fun _ _ _ _ _ hy=>hy) (fun _ _ _=>rfl) φ w (r,H')
       (vs.map .val++List.replicate (rf.ntmps - (vs.map T.val).length) .poison) H φ (fun _=>0) {tmps:=args++Array.replicate (fn.ntmps - args.size) undef,defers:=[]} w h (by rw[h2];exact j1f hvs _) hH (.refl _ _) rfl
      refine calls_of_wp hfn hbody (wp_mono hw fun ex a' w' hq=> ?_)
      have good:Good lim φ w (r,H') (finish rf) a' w'->a'.defers=[]/\ ∃v,(results fn a'.tmps).run P w'= .ok v w'/\ ∃u φ',Ending.returned v= .returned u/\VRel lim φ' r u/\HRel lim φ' H' w'/\Ext lim φ w φ' w':=by
       rintro⟨e',H2,φ',ψ',g1,g2,g3,g4,g5⟩
       obtain⟨u,f1,f2,f3⟩:=Y0h (P:=P) g2 g3 h3 g1
       simp only at f2 f3
       subst f3
       exact⟨g5,u,f1,u,φ',rfl,f2,g3,g4⟩
      cases ex with
      |normal=>exact good hq
      |ret=>exact good hq
      |exit id=>
       obtain⟨e',H2,φ',ψ',g1,_⟩:=hq
       simp[endK]at g1
      |goto _=>exact hq.elim
      |panic _=>exact hq.elim
      |outgrown=>exact hq.elim
     ·cases hf
    ·cases hf
theorem Z0w{prog:FuncId->Option RFunc}(hext0:CallOK lim P (fun f vs H=>ext f (vs.map .val) H))(hprog: ∀f rf,prog f=some rf->chkFunc P f rf=true){f:FuncId}{vs:List V}{H H':Heap}{r:V}(h:run ext prog lim f 0 (vs.map .val) H=some (r,H'))
  {φ:Phi} {w:World} {args:Array Value} (hH:HRel lim φ H w) (hvs:VsRel lim φ vs args.toList):
  Calls P f args w fun e w'=> ∃v φ',e= .returned v/\VRel lim φ' r v/\HRel lim φ' H' w'/\Ext lim φ w φ' w':=by
 obtain⟨k,hk⟩:=(w0F ext prog lim f 0 (vs.map .val) H).ex _ h
 exact(X0g hext0 hprog k f vs H r H' hk).2 φ w args hH hvs
end code
def lookF:List (FuncId×RFunc)->FuncId->Option RFunc
 | [],_=>none
 |x::xs,f=>if x.1=f then some x.2 else lookF xs f
def AllOK(P:Program):List (FuncId×RFunc)->Prop
 | []=>True
 |x::xs=>chkFunc P x.1 x.2=true/\AllOK P xs
theorem X0h{P:Program}: ∀{l:List (FuncId×RFunc)},AllOK P l-> ∀f rf,lookF l f=some rf->chkFunc P f rf=true
 | [],_,f,rf,h=>by simp[lookF]at h
 |x::xs,ha,f,rf,h=>by
  simp only[lookF]at h
  split at h
  ·rename_i hx;cases h;rw[<-hx];exact ha.1
  ·exact X0h ha.2 f rf h
def noExt:FuncId->Env->Heap->Rs:=fun _ _ _=>none
def H0:Heap:=⟨0,fun _=>none⟩
structure Mach where
 ext:FuncId->Env->Heap->Rs
 lim:Nat
 out:Bool
def progOf(A:FuncId)(prog:FuncId->Option RFunc)(out:Bool):FuncId->Option RFunc:=fun f=>if f=A then(if out=true then none else prog f)else prog f
def withP{R:Type}(x:C)(K:Nat->Nat->Option R):Option R:=match x with
 | .ptr i o=>K i o
 |_=>none
def Le{α:Type}(a b:Option α):Prop:= ∀r,a=some r->b=some r
theorem Le.refl{α:Type}(a:Option α):Le a a:=fun _ h=>h
theorem Le.none{α:Type}(b:Option α):Le Option.none b:=fun _ h=>by cases h
theorem Le.bind{α β:Type}{a b:Option α}{f g:α->Option β}(h:Le a b)(k: ∀x,Le (f x) (g x)):Le (a.bind f) (b.bind g):=fun r hr=>by
 obtain⟨x,hx,h2⟩:=oB.1 hr
 exact oB.2 ⟨x,h x hx,k x r h2⟩
theorem Le.ite{α:Type}{c:Prop} [d:Decidable c]{a b a' b':Option α}(h:Le a a')(k:Le b b'):Le (if c then a else b) (if c then a' else b'):=by
 by_cases hc:c
 ·rw[if_pos hc,if_pos hc];exact h
 ·rw[if_neg hc,if_neg hc];exact k
theorem Le.withP{R:Type}{x:C}{K K':Nat->Nat->Option R}(h: ∀i o,Le (K i o) (K' i o)):Le (withP x K) (withP x K'):=by
 cases x<;>first |exact h _ _ |exact Le.none _
theorem progOf_ok{P:Program}{prog:FuncId->Option RFunc}(h: ∀f rf,prog f=some rf->chkFunc P f rf=true)(A:FuncId)(out:Bool): ∀f rf,progOf A prog out f=some rf->chkFunc P f rf=true:=fun f rf hf=>by
 unfold progOf at hf
 split at hf
 ·split at hf
  ·cases hf
  ·exact h f rf hf
 ·exact h f rf hf
def awExt(A:FuncId):FuncId->Env->Heap->Rs:=fun f e H=>if f=A then(match e with
 | []=>some (.c (.bool true),H)
 |_=>none)else none
theorem X0i(lim:Nat)(P:Program):CallOK lim P (fun f vs H=>noExt f (vs.map .val) H):=fun f vs H r H' h=>by cases h
theorem H0_rel(w:World):HRel 0 (fun _=>none) H0 w:=⟨nR _,fun _ _=>rfl,fun _ _ h=>(by cases h),fun _ _ _ h=>(by cases h),fun _ _ h=>(by cases h),fun _ _ _ _ _ h=>absurd rfl h⟩
theorem HRel.kept{lim:Nat}{φ:Phi}{H:Heap}{w w':World}(h:HRel lim φ H w)(hs:w.heap.size<=w'.heap.size)(hk: ∀b,b<w.heap.size->w'.heap[b]? =w.heap[b]?):HRel lim φ H w':=by
 refine⟨h.low,h.dom,fun i p hp=>nL (h.bound i p hp) hs,fun i sz c hg=> ?_,fun i es hg=> ?_,h.inj⟩
 ·obtain⟨p,A,el,fz,h1,h2,h3⟩:=h.cells i sz c hg
  exact⟨p,A,el,fz,h1,by rw[hk _ (h.bound _ _ h1)];exact h2,h3⟩
 ·obtain⟨p,ES,clock,h1,h2,h3⟩:=h.maps i es hg
  exact⟨p,ES,clock,h1,by rw[hk _ (h.bound _ _ h1)];exact h2,h3⟩
theorem k1x{P:Program}{prog:FuncId->Option RFunc}(hprog: ∀f rf,prog f=some rf->chkFunc P f rf=true){A:FuncId}{H':Heap}(h:Vm.run noExt prog 0 A 0 [] H0=some (.c (.bool true),H'))(lim:Nat):
  CallOK lim P (fun f vs H=>awExt A f (vs.map .val) H):=by
 intro f vs H r H2 hr
 unfold awExt at hr
 simp only at hr
 split at hr
 rotate_left
 ·cases hr
 rename_i hf
 subst hf
 cases vs with
 |cons v vs=>simp at hr
 |nil=>
  simp only[List.map_nil,oI,Prod.mk.injEq]at hr
  obtain⟨rfl,rfl⟩:=hr
  obtain⟨k,hk⟩:=(w0F noExt prog 0 f 0 [] H0).ex _ h
  refine⟨(X0g (X0i 0 P) hprog k f [] H0 _ _ hk).1,fun φ w args hH hvs=> ?_⟩
  have ha:args.toList=[]:=by
   generalize args.toList=l at hvs
   cases hvs;rfl
  have hc:=Z0w (X0i 0 P) hprog (vs:=[]) h (H0_rel w) (args:=args) (by rw[ha];exact .nil)
  refine hc.mono fun e w' he=> ?_
  obtain⟨v,φ',he,hv,_,hx⟩:=he
  refine⟨v,φ,he, ?_,hH.kept hx.size (fun b hb=>hx.same b hb fun _ _ _ hq=>by cases hq),⟨fun _ _ h=>h,fun _ _ h=> .inl h,hx.size,fun b hb _=>hx.same b hb fun _ _ _ hq=>(by cases hq),hx.os,hx.tape,hx.output,hx.froz⟩⟩
  cases hv with |c hv=>cases hv with |bool b=>exact .c (.bool _)
@[simp] theorem asI_int (k:IntKind) (n:Int):C.asI k (.int k n)=some n:=by simp[C.asI]
@[simp] theorem asB_bool (b:Bool):C.asB (.bool b)=some b:=rfl
@[simp] theorem asS_str (b:ByteArray):C.asS (.str b)=some b:=rfl
@[simp] theorem asC_c (x:C):V.asC (.c x)=some x:=rfl
@[simp] theorem asA_agg (x:List C):V.asA (.agg x)=some x:=rfl
@[simp] theorem ext_tuple (vs:List V) (i:Nat):V.ext (.tuple vs) i=vs[i]? :=rfl
@[simp] theorem headC_cons (x:C) (xs:List C):headC (x::xs)=some x:=rfl
@[simp] theorem asP_ptr (i o:Nat):V.asP (.c (.ptr i o))=some (i,o):=rfl
@[simp] theorem asF_func (f:FuncId) (a b:List C):C.asF (.func f a b)=some (f,a,b):=rfl
@[simp] theorem len_nil:C.len .nilSlice=some 0:=rfl
@[simp] theorem len_slice (i o n:Nat):C.len (.slice i o n)=some n:=rfl
@[simp] theorem withP_ptr {R:Type} (i o:Nat) (K:Nat->Nat->Option R):withP (.ptr i o) K=K i o:=rfl
@[simp] theorem isNil_nilSlice:isNil .slice .nilSlice=some true:=rfl
@[simp] theorem isNil_slice (i o n:Nat):isNil .slice (.slice i o n)=some false:=rfl
theorem q0e{n:Int}(h: -9223372036854775808<=n)(h':n<=9223372036854775807):IntKind.wrap .i64 n=n:=IntWalk.i64_in n ⟨h,h'⟩
@[simp] theorem alloc_next (H:Heap) (o:Obj):(H.alloc o).next=H.next+1:=rfl
@[simp] theorem put_next (H:Heap) (i:Nat) (o:Obj):(H.put i o).next=H.next:=rfl
@[simp] theorem kill_next (H:Heap) (i:Nat):(H.kill i).next=H.next:=rfl
@[simp] theorem alloc_new (H:Heap) (o:Obj):(H.alloc o).get H.next=some o:=by simp[Heap.alloc]
theorem q0g{H:Heap}{o:Obj}{i:Nat}(h:i<H.next):(H.alloc o).get i=H.get i:=by
 simp only[Heap.alloc];rw[if_neg (by omega)]
@[simp] theorem put_same (H:Heap) (o:Obj) (i:Nat):(H.put i o).get i=some o:=by simp[Heap.put]
theorem q0d{H:Heap}{o:Obj}{i j:Nat}(h:j≠i):(H.put i o).get j=H.get j:=by simp[Heap.put,h]
theorem K0h{H:Heap}{i j:Nat}(h:j≠i):(H.kill i).get j=H.get j:=by simp[Heap.kill,h]
structure Grow (H H':Heap):Prop where
 next:H.next<=H'.next
 keep: ∀i,i<H.next->H'.get i=H.get i
theorem Grow.refl(H:Heap):Grow H H:=⟨nR _,fun _ _=>rfl⟩
theorem Grow.trans{H H' H'':Heap}(h:Grow H H')(k:Grow H' H''):Grow H H'':=⟨nT h.next k.next,fun i hi=>(k.keep i (nL hi h.next)).trans (h.keep i hi)⟩
theorem Grow.alloc(H:Heap)(o:Obj):Grow H (H.alloc o):=⟨Nat.le_succ _,fun _ hi=>q0g hi⟩
theorem Grow.to_alloc{H H':Heap}(h:Grow H H')(o:Obj):Grow H (H'.alloc o):=h.trans (.alloc _ _)
def Sl(H:Heap)(c:C)(sz:Nat)(rows:List (List C)):Prop:=
 (∀r∈rows,r.length=sz)/\((c= .nilSlice/\rows=[])\/ ∃i o z cs,c= .slice i o rows.length/\i<H.next/\H.get i=some (.cells z cs)/\o+rows.length*sz<=cs.length/\(cs.drop o).take (rows.length*sz)=rows.flatten)
def Own(H:Heap)(b:Nat)(c:C)(sz:Nat)(rows:List (List C)):Prop:=
 b<=H.next/\(∀r∈rows,r.length=sz)/\((c= .nilSlice/\rows=[])\/ ∃i o cs,c= .slice i o rows.length/\b<=i/\i<H.next/\H.get i=some (.cells sz cs)/\o+rows.length*sz<=cs.length/\(cs.drop o).take (rows.length*sz)=rows.flatten)
theorem Own.sl{H:Heap}{b:Nat}{c:C}{sz:Nat}{rows:List (List C)}(h:Own H b c sz rows):Sl H c sz rows:=
 ⟨h.2.1,h.2.2.imp id fun⟨i,o,cs,h1,h2,h3,h4,h5⟩=>⟨i,o,sz,cs,h1,h3,h4,h5⟩⟩
theorem Sl.grow{H H':Heap}{c:C}{sz:Nat}{rows:List (List C)}(h:Sl H c sz rows)(g:Grow H H'):Sl H' c sz rows:=
 ⟨h.1,h.2.imp id fun⟨i,o,z,cs,h1,h2,h3,h4⟩=>⟨i,o,z,cs,h1,nL h2 g.next,by rw[g.keep i h2];exact h3,h4⟩⟩
theorem Sl.nil(H:Heap)(sz:Nat):Sl H .nilSlice sz []:=⟨fun _ h=>(by cases h), .inl ⟨rfl,rfl⟩⟩
theorem Own.nil{H:Heap}{b:Nat}(h:b<=H.next)(sz:Nat):Own H b .nilSlice sz []:=⟨h,fun _ h=>(by cases h), .inl ⟨rfl,rfl⟩⟩
theorem Own.low{H:Heap}{b b':Nat}{c:C}{sz:Nat}{rows:List (List C)}(h:Own H b c sz rows)(hb:b'<=b):Own H b' c sz rows:=
 ⟨nT hb h.1,h.2.1,h.2.2.imp id fun⟨i,o,cs,h1,h2,h3⟩=>⟨i,o,cs,h1,nT hb h2,h3⟩⟩
theorem Own.grow{H H':Heap}{b:Nat}{c:C}{sz:Nat}{rows:List (List C)}(h:Own H b c sz rows)(g:Grow H H'):Own H' b c sz rows:=
 ⟨nT h.1 g.next,h.2.1,h.2.2.imp id fun⟨i,o,cs,h1,h2,h3,h4,h5⟩=>⟨i,o,cs,h1,h2,nL h3 g.next,by rw[g.keep i h3];exact h4,h5⟩⟩
theorem k0A{sz:Nat}: ∀{rows:List (List C)},(∀r∈rows,r.length=sz)->rows.flatten.length=rows.length*sz
 | [],_=>by simp
 |r::rs,h=>by
  have:=k0A (rows:=rs) fun x hx=>h x (by simp[hx])
  simp only[List.flatten_cons,List.length_append,List.length_cons,h r (by simp),this,Nat.add_mul];omega
theorem X0j{sz:Nat}: ∀{rows:List (List C)} {j k:Nat} {r:List C} {x:C},(∀r∈rows,r.length=sz)->rows[j]? =some r->r[k]? =some x->rows.flatten[j*sz+k]? =some x
 | [],j,k,r,x,_,hj,_=>by simp at hj
 |r0::rs,0,k,r,x,h,hj,hk=>by
  simp only[List.getElem?_cons_zero,oI]at hj;subst hj
  have hlt:=(gE.1 hk).1
  simp only[List.flatten_cons,Nat.zero_mul,Nat.zero_add]
  rw[List.getElem?_append_left hlt];exact hk
 |r0::rs,j+1,k,r,x,h,hj,hk=>by
  simp only[List.getElem?_cons_succ]at hj
  have h0:=h r0 (by simp)
  have:=X0j (fun x hx=>h x (by simp[hx])) hj hk
  simp only[List.flatten_cons]
  rw[List.getElem?_append_right (by rw[h0];have:=Nat.add_mul j 1 sz;omega),h0]
  have e:(j+1)*sz+k - sz=j*sz+k:=by rw[Nat.add_mul];omega
  rw[e];exact this
theorem Sl.len{H:Heap}{c:C}{sz:Nat}{rows:List (List C)}(h:Sl H c sz rows):C.len c=some rows.length:=by
 rcases h.2 with⟨rfl,rfl⟩ |⟨i,o,z,cs,rfl,_⟩<;>rfl
theorem Sl.cellsOf{H:Heap}{c:C}{sz:Nat}{rows:List (List C)}(h:Sl H c sz rows):H.cellsOf sz c=some rows.flatten:=by
 rcases h.2 with⟨rfl,rfl⟩ |⟨i,o,z,cs,rfl,_,h2,h3,h4⟩
 ·rfl
 ·simp only[Heap.cellsOf,Heap.ldN,h2];rw[if_pos h3,h4]
theorem Sl.elem{H:Heap}{c:C}{sz:Nat}{rows:List (List C)}(h:Sl H c sz rows){j:Nat}{r:List C}(hj:rows[j]? =some r):
  ∃q,C.elem sz c (j:Int)=some q/\ ∀k x,r[k]? =some x->H.ld q.1 (q.2+k)=some x:=by
 have hlt:=(gE.1 hj).1
 rcases h.2 with⟨rfl,rfl⟩ |⟨i,o,z,cs,rfl,_,h2,h3,h4⟩
 ·simp at hj
 ·refine⟨(i,o+j*sz),by simp only[C.elem];rw[if_pos (by omega)];simp,fun k x hk=> ?_⟩
  have hf:=X0j h.1 hj hk
  rw[<-h4,List.getElem?_take]at hf
  split at hf
  ·rw[List.getElem?_drop]at hf
   simp only[Heap.ld,h2]
   rw[<-hf];congr 1;omega
  ·cases hf
def rowI(n:Int):List C:=[.int .i64 n]
def Ints(H:Heap)(c:C)(l:List Int):Prop:=Sl H c 1 (l.map rowI)
def OInts(H:Heap)(b:Nat)(c:C)(l:List Int):Prop:=Own H b c 1 (l.map rowI)
theorem OInts.ints{H:Heap}{b:Nat}{c:C}{l:List Int}(h:OInts H b c l):Ints H c l:=h.sl
theorem Ints.grow{H H':Heap}{c:C}{l:List Int}(h:Ints H c l)(g:Grow H H'):Ints H' c l:=Sl.grow h g
theorem Ints.len{H:Heap}{c:C}{l:List Int}(h:Ints H c l):C.len c=some l.length:=by have:=Sl.len h;simpa using this
theorem Ints.read{H:Heap}{c:C}{l:List Int}(h:Ints H c l){j:Nat}{v:Int}(hj:l[j]? =some v): ∃q,C.elem 1 c (j:Int)=some q/\H.ld q.1 q.2=some (.int .i64 v):=by
 obtain⟨q,h1,h2⟩:=Sl.elem h (j:=j) (r:=rowI v) (by simp[hj])
 exact⟨q,h1,h2 0 _ rfl⟩
theorem Ints.nil(H:Heap):Ints H .nilSlice []:=Sl.nil H 1
theorem Own.lit(H:Heap){b sz:Nat}(hb:b<=H.next){rows:List (List C)}(h: ∀r∈rows,r.length=sz){cs:List C}(he:cs=rows.flatten){n:Nat}(hn:n=rows.length):Own (H.alloc (.cells sz cs)) b (.slice H.next 0 n) sz rows:=by
 subst he hn
 exact⟨by simp;omega,h, .inr ⟨H.next,0,_,rfl,hb,by simp,alloc_new _ _,by rw[k0A h];simp,by rw[List.drop_zero,List.take_of_length_le (by rw[k0A h];exact nR _)]⟩⟩
theorem OInts.lit(H:Heap){b:Nat}(hb:b<=H.next)(l:List Int){cs:List C}(he:cs=l.map (.int .i64)){n:Nat}(hn:n=l.length):OInts (H.alloc (.cells 1 cs)) b (.slice H.next 0 n) l:=
 Own.lit H hb (fun r hr=>by obtain⟨x,_,rfl⟩:=List.mem_map.1 hr;rfl) (by rw[he];induction l generalizing cs n with
  |nil=>rfl
  |cons x xs ih=>simp only[List.map_cons,List.flatten_cons,rowI,List.singleton_append,List.cons.injEq,true_and];exact ih rfl rfl) (by simpa using hn)
structure Kept (s:C) (H H':Heap):Prop where
 next:H.next<=H'.next
 keep: ∀i,i<H.next->(∀o n,s≠ .slice i o n)->H'.get i=H.get i
def Apart(s c:C):Prop:= ∀i o n p m,s= .slice i o n->c= .slice i p m->False
theorem Sl.kept{H H':Heap}{s c:C}{sz:Nat}{rows:List (List C)}(h:Sl H c sz rows)(k:Kept s H H')(ha:Apart s c):Sl H' c sz rows:=
 ⟨h.1,h.2.imp id fun⟨i,o,z,cs,h1,h2,h3,h4⟩=>⟨i,o,z,cs,h1,nL h2 k.next,by rw[k.keep i h2 (fun p m e=>ha i p m o _ e h1)];exact h3,h4⟩⟩
theorem Own.kept{H H':Heap}{s c:C}{b sz:Nat}{rows:List (List C)}(h:Own H b c sz rows)(k:Kept s H H')(ha:Apart s c):Own H' b c sz rows:=
 ⟨nT h.1 k.next,h.2.1,h.2.2.imp id fun⟨i,o,cs,h1,h2,h3,h4,h5⟩=>⟨i,o,cs,h1,h2,nL h3 k.next,by rw[k.keep i h3 (fun p m e=>ha i p m o _ e h1)];exact h4,h5⟩⟩
theorem Own.app{H:Heap}{lim b:Nat}{s:C}{sz:Nat}{rows rows':List (List C)}(h:Own H b s sz rows)(hb:lim<=b)(hr: ∀r∈rows',r.length=sz){n:Nat}(hn:n=rows'.length)(hroom:rows.length+rows'.length<=2 ^ 36):
  ∃c' H',H.app lim sz s rows'.flatten n=some (c',H')/\Own H' b c' sz (rows++rows')/\Kept s H H'/\(c'= .nilSlice\/ ∃o n,c'= .slice H.next o n):=by
 subst hn
 have hall: ∀r∈rows++rows',r.length=sz:=fun r hrm=>(mA.1 hrm).elim (h.2.1 r) (hr r)
 rcases h.2.2 with⟨rfl,rfl⟩ |⟨i,o,cs,rfl,h2,h3,h4,h5,h6⟩
 ·by_cases h0:rows'.length=0
  ·have:=List.eq_nil_of_length_eq_zero h0;subst this
   exact⟨.nilSlice,H,by simp[Heap.app],⟨h.1,by simp, .inl ⟨rfl,rfl⟩⟩,⟨nR _,fun _ _ _=>rfl⟩, .inl rfl⟩
  ·refine⟨_,_,by simp only[Heap.app];rw[if_neg h0,if_pos (by simp[roomy]at hroom⊢;omega)], ?_,⟨Nat.le_succ _,fun i hi _=>q0g hi⟩, .inr ⟨_,_,rfl⟩⟩
   exact Own.lit H h.1 hall (by simp) (by simp)
 ·refine⟨_,_,by simp only[Heap.app,h4];rw[if_pos ⟨by omega,trivial,h5,by simpa[roomy]using hroom⟩], ?_,⟨Nat.le_succ _,fun j hj hne=> ?_⟩, .inr ⟨_,_,rfl⟩⟩
  ·rw[h6]
   have:=Own.lit (H.kill i) (b:=b) (sz:=sz) h.1 hall (cs:=rows.flatten++rows'.flatten) (by simp) (n:=rows.length+rows'.length) (by simp)
   exact this
  ·have hji:j≠i:=fun e=>hne o rows.length (by rw[e])
   rw[q0g (show j<(H.kill i).next from hj),K0h hji]
theorem Own.append1{H:Heap}{lim b:Nat}{s:C}{sz:Nat}{rows:List (List C)}(h:Own H b s sz rows)(hb:lim<=b){r:List C}(hr:r.length=sz)(hroom:rows.length+1<=2 ^ 36):
  Heap.cellsOf (H.alloc (.cells sz r)) sz (.slice H.next 0 1)=some r/\
  ∃c' H',Heap.app lim (H.alloc (.cells sz r)) sz s r 1=some (c',H')/\Own H' b c' sz (rows++[r])/\Kept s H H'/\(c'= .nilSlice\/ ∃i o n,c'= .slice i o n/\H.next<=i):=by
 have hl:Own (H.alloc (.cells sz r)) b (.slice H.next 0 1) sz [r]:=Own.lit H h.1 (by simp[hr]) (by simp) rfl
 refine⟨by have:=hl.sl.cellsOf;simpa using this, ?_⟩
 obtain⟨c',H',h1,h2,h3,h4⟩:=(h.grow (.alloc H _)).app (lim:=lim) (rows':=[r]) hb (by simp[hr]) (n:=1) rfl (by simpa using hroom)
 refine⟨c',H',by simpa using h1,h2,⟨nT (Nat.le_succ _) h3.next,fun i hi hne=> ?_⟩, ?_⟩
 rotate_left
 ·rcases h4 with h4 |⟨o,n,e⟩
  ·exact .inl h4
  ·exact .inr ⟨_,o,n,e,by simp⟩
 rw[h3.keep i (Nat.lt_succ_of_lt hi) hne,q0g hi]
theorem OInts.append1{H:Heap}{lim b:Nat}{s:C}{l:List Int}(h:OInts H b s l)(hb:lim<=b)(x:Int)(hroom:l.length+1<=2 ^ 36):
  Heap.cellsOf (H.alloc (.cells 1 [.int .i64 x])) 1 (.slice H.next 0 1)=some [.int .i64 x]/\
  ∃c' H',Heap.app lim (H.alloc (.cells 1 [.int .i64 x])) 1 s [.int .i64 x] 1=some (c',H')/\OInts H' b c' (l++[x])/\Kept s H H'/\(c'= .nilSlice\/ ∃i o n,c'= .slice i o n/\H.next<=i):=by
 obtain⟨h1,c',H',h2,h3,h4⟩:=Own.append1 h hb (r:=rowI x) rfl (by simpa using hroom)
 exact⟨h1,c',H',h2,by unfold OInts;rw[List.map_append];exact h3,h4⟩
mutual
theorem CRel.up{lim lim':Nat}(hl:lim<=lim'){φ:Phi}: ∀{x:C} {v:Value},CRel lim φ x v->CRel lim' φ x v
 |_,_, .junk h=> .junk h
 |_,_, .bool b=> .bool b
 |_,_, .int k n=> .int k n
 |_,_, .str s=> .str s
 |_,_, .nilPtr=> .nilPtr
 |_,_, .ptr h=> .ptr h
 |_,_, .nilSlice=> .nilSlice
 |_,_, .slice h a b c=> .slice h a b (fun hi=>c (nT hl hi))
 |_,_, .slice0 h=> .slice0 (nL h hl)
 |_,_, .nilMap=> .nilMap
 |_,_, .map h=> .map h
 |_,_, .func a b=> .func (CsRel.up hl a) (CsRel.up hl b)
 |_,_, .nilFunc=> .nilFunc
 |_,_, .ifaceC h=> .ifaceC (CRel.up hl h)
 |_,_, .ifaceA h=> .ifaceA (CsRel.up hl h)
 |_,_, .nilIface=> .nilIface
theorem CsRel.up{lim lim':Nat}(hl:lim<=lim'){φ:Phi}: ∀{x:List C} {v:List Value},CsRel lim φ x v->CsRel lim' φ x v
 |_,_, .nil=> .nil
 |_,_, .cons a b=> .cons (CRel.up hl a) (CsRel.up hl b)
end
theorem HRel.up{lim lim':Nat}(hl:lim<=lim'){φ:Phi}{H:Heap}{w:World}(h:HRel lim φ H w)(hn:lim'<=H.next):HRel lim' φ H w:=by
 refine⟨hn,h.dom,h.bound,fun i sz c hg=> ?_,fun i es hg=> ?_,fun i j p q hj=>h.inj i j p q (nT hl hj)⟩
 ·obtain⟨p,A,el,fz,h1,h2,h3,h4,h5,h6⟩:=h.cells i sz c hg
  exact⟨p,A,el,fz,h1,h2,h3,h4,fun hi=>h5 (nT hl hi),fun j x hj=>let⟨v,hv,hr⟩:=h6 j x hj;⟨v,hv,hr.up hl⟩⟩
 ·obtain⟨p,ES,clock,h1,h2,h3,h4⟩:=h.maps i es hg
  refine⟨p,ES,clock,h1,h2,⟨h3.1,fun j k v hj=> ?_⟩,h4⟩
  obtain⟨e,g1,g2,g3⟩:=h3.2 j k v hj
  refine⟨e,g1,g2.up hl, ?_⟩
  exact VRel.upp hl g3
where
 VRel.upp {lim lim':Nat} (hl:lim<=lim') {φ:Phi}: ∀{x:V} {v:Value},VRel lim φ x v->VRel lim' φ x v
 |_,_, .c h=> .c (h.up hl)
 |_,_, .agg h=> .agg (h.up hl)
 |_,_, .tuple h=> .tuple (VsRel.upp hl h)
 VsRel.upp {lim lim':Nat} (hl:lim<=lim') {φ:Phi}: ∀{x:List V} {v:List Value},VsRel lim φ x v->VsRel lim' φ x v
 |_,_, .nil=> .nil
 |_,_, .cons a b=> .cons (VRel.upp hl a) (VsRel.upp hl b)
theorem HRel.take{φ:Phi}{H:Heap}{w:World}(h:HRel H.next φ H w){b off:Nat}{A:Array Value}{el:TypeId}{fz:Nat×Nat}(hb:w.heap[b]? =some (.cells A el fz))(sz:Nat){c:List C}{vs:List Value}
  (hc:CsRel H.next φ c vs) (hv: ∀j,j<vs.length->A[off+j]? =vs[j]?) (hn:off+c.length<=A.size):
  HRel (H.next+1) (φ.add H.next ⟨b,off,A.size,sz⟩) (H.alloc (.cells sz c)) w/\(∀i p,φ i=some p->φ.add H.next ⟨b,off,A.size,sz⟩ i=some p):=by
 have hmono:=Phi.add_mono (φ:=φ) ⟨b,off,A.size,sz⟩ (h.dom H.next (nR _))
 have h':=h
 refine⟨⟨nR _, ?_, ?_, ?_, ?_, ?_⟩,hmono⟩
 ·intro i hi
  have hi:H.next+1<=i:=hi
  simp only[Phi.add];rw[if_neg (by omega)];exact h.dom i (by omega)
 ·intro i p hp
  by_cases e:i=H.next
  ·simp only[Phi.add,e,iT,oI]at hp;subst hp;exact(Array.getElem?_eq_some_iff.1 hb).1
  ·simp only[Phi.add,e,iF]at hp;exact h.bound i p hp
 ·intro i sz' c' hg
  by_cases e:i=H.next
  ·subst e
   simp only[Heap.alloc,iT,oI,Obj.cells.injEq]at hg
   obtain⟨rfl,rfl⟩:=hg
   refine⟨_,A,el,fz,Phi.add_same _ _ _,hb,rfl,hn,fun hi=>by omega,fun j x hj=> ?_⟩
   obtain⟨v,h1,h2⟩:=hc.get hj
   exact⟨v,by rw[hv j (gE.1 h1).1];exact h1,(h2.mono hmono).up (Nat.le_succ _)⟩
  ·simp only[Heap.alloc,e,iF]at hg
   obtain⟨p,A',el',fz',h1,h2,h3,h4,h5,h6⟩:=h.cells i sz' c' hg
   exact⟨p,A',el',fz',hmono _ _ h1,h2,h3,h4,fun hi=>h5 (by omega),fun j x hj=>by obtain⟨v,hv,hx⟩:=h6 j x hj;exact⟨v,hv,(hx.mono hmono).up (Nat.le_succ _)⟩⟩
 ·intro i es hg
  by_cases e:i=H.next
  ·subst e;simp only[Heap.alloc,iT,oI]at hg;cases hg
  ·simp only[Heap.alloc,e,iF]at hg
   obtain⟨p,ES,clock,h1,h2,h3,h4⟩:=(h.up (nR _) (nR _)).maps i es hg
   refine⟨p,ES,clock,hmono _ _ h1,h2,⟨h3.1,fun j k v hj=> ?_⟩,h4⟩
   obtain⟨e,g1,g2,g3⟩:=(h3.mono hmono).2 j k v hj
   exact⟨e,g1,g2.up (Nat.le_succ _),HRel.up.VRel.upp (Nat.le_succ _) g3⟩
 ·intro i j p q hlj hi hj hp hq e
  have hn:=h.dom j (by omega)
  simp only[Phi.add]at hq
  rw[if_neg (by omega),hn]at hq;cases hq
inductive Sc where
 |int (k:IntKind)
 |bool
 |str
def sc1(P:Program)(t:TypeId):Option Sc:=if P.cellsOf t=1 then(match P.underlying t with
 |some (.int k)=>some (.int k)
 |some .bool=>some .bool
 |some .string=>some .str
 |_=>none)else none
def scC:Sc->C->Prop
 | .int k,c=> ∃n,c= .int k n/\(Lit.int k n).wf=true
 | .bool,c=> ∃b,c= .bool b
 | .str,c=> ∃s,c= .str s/\s.size<=maxLen
def Typed:List Sc->List C->Prop
 | [],cs=>cs=[]
 |s::ss,cs=> ∃c r,cs=c::r/\scC s c/\Typed ss r
theorem Typed.length: ∀{ss:List Sc} {cs:List C},Typed ss cs->cs.length=ss.length
 | [],cs,h=>by simp only[Typed]at h;subst h;rfl
 |s::ss,cs,h=>by obtain⟨c,r,rfl,_,h2⟩:=h;simp[h2.length]
section
variable{D:Type}{enc:TypeId×Value->D}{P:Program}{w:World}{base:Nat}{spare:Nat->Bool}{held:Bool}{fuel:Nat}{t:TypeId}{cs:List Value}{x:DataW D×List MemPlace}
end
end Go.Proofs.Ytglkhoamnmiolaa.Vm
