/- A part of the proof. -/
import Derived.Test.YthjjbkiejkhjfaaWp
namespace Go.Proofs.Ythjjbkiejkhjfaa.R
open Go Go.Proofs.Ythjjbkiejkhjfaa.Vm
set_option linter.unusedVariables false
set_option linter.unusedSimpArgs false
variable{M:YM}
section
variable{N:Nat}{b1 b2 b3:Bool}{es:List E3}{xs:List (Bool×List Int)}{g1:U}{g0:Int}
def ixF(es:List E3)(x:Int):Nat→Nat→List Int
 | 0,_=>[]
 |d+1,a=>stepsL es x (a:Int)++ixF es x d (a+1)
theorem ixF_mv(x:Int): ∀d a,(ixF es x d a).map (edgeAt es)=mvF es x d a
 | 0,_=>rfl
 |d+1,a=>by simp only[ixF,mvF,List.map_append,ixF_mv x d (a+1)]
theorem ixF_len(x:Int): ∀d a,(ixF es x d a).length≤es.length*d
 | 0,_=>Nat.zero_le _
 |d+1,a=>by
  have:=ixF_len x d (a+1)
  have h2:=steps_len (es:=es) x (a:Int)
  simp only[ixF,List.length_append,Nat.mul_succ]
  omega
theorem app_ints{s:Sx}{l:List Int}(h:SxI s l)(r:List Int)(hn:l.length+r.length≤1000000): ∃s',Sx.app s 1 (r.map uI)=some s'∧SxI s' (l++r):=by
 by_cases h0:s.b=false∧r=[]
 ·obtain⟨hb,rfl⟩:=h0
  refine⟨s, ?_,by simpa using h⟩
  unfold Sx.app
  rw[if_pos,if_pos ⟨hb,rfl⟩]
  exact⟨.inl hb,rfl,by show _≤_;rw[h.len];simp;omega⟩
 ·refine⟨⟨true,1,s.es++r.map uI⟩, ?_,by rw[h.es];simp,fun h=>(by cases h),fun _=>rfl⟩
  unfold Sx.app
  rw[if_pos,if_neg]
  ·exact fun h2=>h0 ⟨h2.1,by simpa using h2.2⟩
  ·refine⟨?_,List.all_eq_true.2 fun v hv=> ?_,by show _≤_;rw[h.len];simp;omega⟩
   ·cases hb:s.b with
    |false=>exact .inl rfl
    |true=>exact .inr (h.z hb)
   ·obtain⟨n,_,rfl⟩:=List.mem_map.1 hv
    rfl
theorem y90_1_is(he:es.length≤2000){x:Int}: ∀(d a:Nat) (out:Sx) (lo:List Int),a+d=12→SxI out lo→lo.length+2000*d≤1000000→ ∃s,y90_1 M x g0 g1 (uEs b2 es) (a:Int) out=some (.sl s)∧SxI s (lo++ixF es x d a):=by
 intro d
 induction d with
 |zero=>
  intro a out lo ha ho hl
  rw[y90_1_eq]
  simp only[show¬((a:Int)<12) by omega,decide_false,bF,if_false,ho.scals,if_true,ixF,List.append_nil]
  exact⟨out,rfl,ho⟩
 |succ d ih=>
  intro a out lo ha ho hl
  obtain⟨s,s1,s2⟩:=y71_is (M:=M) (b2:=b2) he (g0:=g0) (x:=x) (a:=(a:Int)) (g1:=g1)
  have hlen:=steps_len (es:=es) x (a:Int)
  obtain⟨o',g1',g2⟩:=app_ints ho (stepsL es x (a:Int)) (by omega)
  obtain⟨o,k1,k2⟩:=ih (a+1) o' _ (by omega) g2 (by simp;omega)
  rw[←s2.es]at g1'
  rw[y90_1_eq]
  simp only[show((a:Int)<12) by omega,decide_true,if_true,s1,oS,asSl_sl,g1',wrap_succ (show a≤1000000000 by omega),k1]
  exact⟨o,rfl,by simpa[ixF]using k2⟩
theorem y90_is(he:es.length≤2000){x:Int}: ∃s,y90 M g0 g1 (uEs b2 es) x=some (.sl s)∧SxI s (ixF es x 12 0):=by
 rw[y90_eq]
 exact y90_1_is he 12 0 _ [] (by omega) .nil (by simp)
theorem ix_edge{x:Int}{k:Nat}(hk:k<(ixF es x 12 0).length): ∃(j:Nat) (e:E3),(ixF es x 12 0)[k]=(j:Int)∧es[j]? =some e∧ ∃h:k<(mv es x).length,(mv es x)[k]=e:=by
 have hmem: ∀d a,∀i∈ixF es x d a,∃(j:Nat) (e:E3),i=(j:Int)∧es[j]? =some e:=by
  intro d
  induction d with
  |zero=>intro a i h;cases h
  |succ d ih=>
   intro a i h
   simp only[ixF,List.mem_append]at h
   rcases h with h |h
   ·obtain⟨j,e,h1,h2,_⟩:=mem_steps.1 h
    exact⟨j,e,h1,h2⟩
   ·exact ih _ i h
 obtain⟨j,e,h1,h2⟩:=hmem 12 0 _ (lM hk)
 have hl:(mv es x).length=(ixF es x 12 0).length:=by unfold mv;rw[←ixF_mv];simp
 refine⟨j,e,h1,h2,by omega, ?_⟩
 have h3:(mv es x)[k]? =((ixF es x 12 0).map (edgeAt es))[k]? :=by rw[ixF_mv];rfl
 rw[List.getElem?_map,get?_of_lt hk,Option.map_some,h1,edgeAt_is h2]at h3
 exact(gE.1 h3).2
theorem ix_mv_len(x:Int):(mv es x).length=(ixF es x 12 0).length:=by unfold mv;rw[←ixF_mv];simp
theorem y91_1_is{bs:List (Bool×List Int)}{bf bl:Bool}(hb:bs.map (·.2)=rows es N 12){a:Nat}(ha:a<12){l:List Int}(hl: ∀q∈l,0≤q∧q<12)(hn:l.length≤1000000): ∀(d k:Nat),k+d=l.length→y91_1 M (uLs bf bs) (a:Int) (uIs bl l) (k:Int)=some (.val (.c (.bool ((l.drop k).any fun q=>DD es N a q.toNat)))):=by
 intro d
 induction d with
 |zero=>
  intro k hk
  rw[y91_1_eq,dL (by omega)]
  simp only[len_uIs,oS,show¬((k:Int)<l.length) by omega,decide_false,bF,if_false,List.any_nil]
 |succ d ih=>
  intro k hk
  have hlt:k<l.length:=by omega
  obtain⟨br,hr⟩:=row_get hb ha
  obtain⟨q0,q1⟩:=hl _ (lM hlt)
  obtain⟨q,hq⟩:=Int.eq_ofNat_of_zero_le q0
  have hm:=mem_free (es:=es) (N:=N) (a:=a) (b:=q) (by omega)
  have h39:=y39_is (M:=M) (b1:=br) (l:=free es N a) (v:=(q:Int)) (by have:=free_len es N a;omega)
  rw[y91_1_eq,drop_cons hlt]
  simp only[len_uIs,oS,show((k:Int)<l.length) by omega,decide_true,if_true,idx_uLs hr,idx_uIs (get?_of_lt hlt),cell_uIs,cell_c,asI_c,List.any_cons,wrap_succ (show k≤1000000000 by omega),ih (k+1) (by omega)]
  rw[hq,h39]
  simp only[oS,toU_val,asB_c,hm,Bool.not_not,iN]
  cases DD es N a q<;>simp
theorem y91_is{bs:List (Bool×List Int)}{bf bl:Bool}(hb:bs.map (·.2)=rows es N 12){a:Nat}(ha:a<12){l:List Int}(hl: ∀q∈l,0≤q∧q<12)(hn:l.length≤1000000):y91 M (uLs bf bs) (a:Int) (uIs bl l)=some (.val (.c (.bool (l.any fun q=>DD es N a q.toNat)))):=by
 have:=y91_1_is (M:=M) (bf:=bf) (bl:=bl) hb ha hl hn l.length 0 (by omega)
 rw[List.drop_zero,show((0:Nat):Int)=0 from rfl]at this
 rw[y91_eq]
 exact this
structure SxP (s:Sx) (l:List PE):Prop where
 es:s.es=l.map fun p=>uIs true p.1
 b:s.b=false→l=[]
 z:s.b=true→s.sz=1
theorem SxP.len{s:Sx}{l:List PE}(h:SxP s l):s.es.length=l.length:=by rw[h.es];simp
theorem SxP.get{s:Sx}{l:List PE}(h:SxP s l){k:Nat}(hk:k<l.length):Sx.has s 1 (k:Int)=true∧(s.es)[((k:Int)).toNat]? =some (uIs true l[k].1):=by
 refine⟨?_,by rw[h.es];simp[hk]⟩
 have hb:s.b=true:=by
  cases hb:s.b with
  |true=>rfl
  |false=>have:=h.b hb;subst this;simp at hk
 unfold Sx.has
 rw[h.z hb,h.len]
 simp[hk]
theorem SxP.app{s:Sx}{l:List PE}(h:SxP s l){r:Sx}{p:PE}(hr:SxI r p.1)(hb:r.b=true)(hn:l.length≤1000000): ∃s',Sx.app s 1 [Sx.fz r]=some s'∧SxP s' (l++[p]):=by
 refine⟨⟨true,1,s.es++[Sx.fz r]⟩,app_one rfl ?_ (by rw[h.len];exact hn), ?_,fun h=>(by cases h),fun _=>rfl⟩
 ·cases hb:s.b with
  |false=>exact .inl rfl
  |true=>exact .inr (h.z hb)
 ·rw[h.es,hr.fz,hb];simp
def endP(p:PE):Prop:= ∃q,p.1=q++[p.2]
theorem idx_end{p:PE}(h:endP p)(hn:p.1.length≤1000000):U.idx 1 (uIs true p.1) (IntKind.wrap .i64 ((p.1.length:Int) - 1))=some (uI p.2):=by
 obtain⟨q,hq⟩:=h
 have hl:p.1.length=q.length+1:=by rw[hq];simp
 have:IntKind.wrap .i64 ((p.1.length:Int) - 1)=(q.length:Int):=by rw[wrap_in (by omega) (by omega)];omega
 rw[this]
 refine idx_uIs ?_
 rw[hq];simp
theorem fold_end{ok:E3→Bool}{p:PE}: ∀(ms:List E3) (st:List Int×List PE),(∀q∈st.2,endP q)→ ∀q∈(ms.foldl (step3 ok p) st).2,endP q
 | [],st,h=>h
 |x::ms,st,h=>by
  refine fold_end ms _ ?_
  unfold step3
  split
  ·intro q hq
   rcases List.mem_append.1 hq with hq |hq
   ·exact h q hq
   ·simp only[List.mem_cons,List.not_mem_nil,or_false]at hq
    subst hq
    exact⟨p.1++[x.a],by simp⟩
  ·exact h
theorem next_end{ok:E3→Bool}: ∀(layer:List PE) (st:List Int×List PE),(∀q∈st.2,endP q)→ ∀q∈(nextL es ok layer st).2,endP q
 | [],st,h=>h
 |p::layer,st,h=>by
  unfold nextL
  rw[List.foldl_cons]
  exact next_end layer _ (fold_end _ st h)
theorem own_app{p:List Int}{x y:Int}(hn:p.length≤900000): ∃s s',y15 M (uIs true p)=some (.sl s)∧Sx.app s 1 [.c (.int .i64 x), .c (.int .i64 y)]=some s'∧SxI s' (p++[x,y])∧s'.b=true:=by
 have h15:=y15_is (M:=M) (b:=true) (l:=p) (by omega)
 obtain⟨s',g1,g2⟩:=app_ints (SxI.of_lit p) [x,y] (by simp;omega)
 refine⟨_,s',h15,g1,g2, ?_⟩
 cases hb:s'.b with
 |true=>rfl
 |false=>have:=g2.b hb;rw[g2.es]at this;simp at this
theorem y57_3_is(hok: ∀e∈es,eOK (N:Int) e=true){bs:List (Bool×List Int)}{bf bl:Bool}(hb:bs.map (·.2)=rows es N 12){s:Nat}(hch: ∀q∈atC xs s,0≤q∧q<12)(hcl:(atC xs s).length≤1000000)(he:es.length≤2000){paths seen l:Sx}{layer:List PE}(hp:SxP paths layer)(hll:layer.length≤10000){i:Nat}(hi:i<layer.length)(hpl:layer[i].1.length≤900000)(hl:SxI l (ixF es layer[i].2 12 0)):
  ∀(d k:Nat),k+d=(ixF es layer[i].2 12 0).length→
  match((mv es layer[i].2).drop k).find? (condB (DD es N) xs s)with
  |some x=> ∃o,y57_3 M (uLs bf bs) (uIs bl (atC xs s)) g0 g1 (uEs b2 es) (i:Int) (k:Int) paths seen l=some (.sl o)∧SxI o (layer[i].1++[x.a])
  |none=>y57_3 M (uLs bf bs) (uIs bl (atC xs s)) g0 g1 (uEs b2 es) (i:Int) (k:Int) paths seen l=y57_2 M (uLs bf bs) (uIs bl (atC xs s)) g0 g1 (uEs b2 es) ((i+1:Nat):Int) paths seen:=by
 have hlen:=ixF_len (es:=es) layer[i].2 12 0
 have hml:=ix_mv_len (es:=es) layer[i].2
 obtain⟨p1,p2⟩:=hp.get hi
 intro d
 induction d with
 |zero=>
  intro k hk
  rw[dL (by omega),y57_3_eq]
  simp only[hl.len,show¬((k:Int)<(((ixF es layer[i].2 12 0).length:Nat):Int)) by omega,decide_false,bF,if_false,List.find?_nil,wrap_succ (show i≤1000000000 by omega)]
 |succ d ih=>
  intro k hk
  have hlt:k<(ixF es layer[i].2 12 0).length:=by omega
  obtain⟨j,e,h1,h2,h3,h4⟩:=ix_edge hlt
  obtain⟨l1,l2⟩:=hl.get hlt
  obtain⟨⟨_,_,ha0,ha1⟩,_,_⟩:=eOK_good (hok e (List.mem_of_getElem? h2))
  obtain⟨a,ha⟩:=Int.eq_ofNat_of_zero_le ha0
  have hat:e.a.toNat=a:=by omega
  have h91:=y91_is (M:=M) (bf:=bf) (bl:=bl) hb (a:=a) (by omega) hch hcl
  have hcd:condB (DD es N) xs s e=(!decide (e.a∈atC xs s)&&(atC xs s).any fun q=>DD es N a q.toNat):=by unfold condB;rw[hat]
  have hq:(if(!decide (e.a∈atC xs s))=true then
    (y91 M (uLs bf bs) e.a (uIs bl (atC xs s))).bind fun r10=>
    (Rz.toU r10).bind fun u11=>
    (U.asB u11).bind fun b12=>some b12
    else some (!decide (e.a∈atC xs s)))=some (condB (DD es N) xs s e):=by
   rw[hcd]
   by_cases hm:e.a∈atC xs s
   ·simp[hm]
   ·rw[ha]at hm⊢
    simp[hm,h91]
  have ih':=ih (k+1) (by omega)
  rw[drop_cons h3,List.find?_cons,h4]
  have h15:=y15_is (M:=M) (b:=true) (l:=layer[i].1) (by omega)
  obtain⟨s',q1,q2⟩:=app_ints (SxI.of_lit layer[i].1) [e.a] (by simp;omega)
  have heq:y57_3 M (uLs bf bs) (uIs bl (atC xs s)) g0 g1 (uEs b2 es) (i:Int) (k:Int) paths seen l=if condB (DD es N) xs s e=true then some (.sl s')else y57_3 M (uLs bf bs) (uIs bl (atC xs s)) g0 g1 (uEs b2 es) (i:Int) ((k+1:Nat):Int) paths seen l:=by
   rw[y57_3_eq]
   simp only[hl.len,show((k:Int)<(((ixF es layer[i].2 12 0).length:Nat):Int)) by omega,decide_true,if_true,l1,l2,oS,cell_c,asI_c,h1,idx_uEs h2,cell_uE2,y39_is hcl,toU_val,asB_c]
   rw[hq]
   simp only[oS,p1,if_true,p2,cell_uIs,h15,asSl_sl,wrap_succ (show k≤1000000000 by omega)]
   simp only[List.map_cons,List.map_nil,uI]at q1
   simp only[q1,oS,q2.scals,if_true]
  cases hc:condB (DD es N) xs s e with
  |true=>simp only;rw[heq,hc];exact⟨s',rfl,q2⟩
  |false=>simp only;rw[heq,hc];exact ih'
theorem y57_2_is(hok: ∀e∈es,eOK (N:Int) e=true){bs:List (Bool×List Int)}{bf bl:Bool}(hb:bs.map (·.2)=rows es N 12){s:Nat}(hch: ∀q∈atC xs s,0≤q∧q<12)(hcl:(atC xs s).length≤1000000)(he:es.length≤2000){paths seen:Sx}{layer:List PE}(hp:SxP paths layer)(hll:layer.length≤10000)(hpl: ∀p∈layer,p.1.length≤900000)(hend: ∀p∈layer,endP p):
  ∀(d i:Nat),i+d=layer.length→
  match hitL es (condB (DD es N) xs s) (layer.drop i)with
  |some r=> ∃o,y57_2 M (uLs bf bs) (uIs bl (atC xs s)) g0 g1 (uEs b2 es) (i:Int) paths seen=some (.sl o)∧SxI o r
  |none=>y57_2 M (uLs bf bs) (uIs bl (atC xs s)) g0 g1 (uEs b2 es) (i:Int) paths seen=y57_4 M (uLs bf bs) (uIs bl (atC xs s)) g0 g1 (uEs b2 es) 0 paths seen ⟨false,0,[]⟩:=by
 intro d
 induction d with
 |zero=>
  intro i hi
  rw[dL (by omega),y57_2_eq]
  simp only[hp.len,show¬((i:Int)<((layer.length:Nat):Int)) by omega,decide_false,bF,if_false,hitL]
 |succ d ih=>
  intro i hi
  have hlt:i<layer.length:=by omega
  obtain⟨p1,p2⟩:=hp.get hlt
  have hpl1:=hpl _ (lM hlt)
  obtain⟨w,w1,w2⟩:=y90_is (M:=M) (b2:=b2) (g0:=g0) (g1:=g1) he (x:=layer[i].2)
  have h3:=y57_3_is (M:=M) (b2:=b2) (g0:=g0) (g1:=g1) (seen:=seen) (bf:=bf) (bl:=bl) hok hb hch hcl he hp hll hlt hpl1 w2 _ 0 (Nat.zero_add _)
  rw[List.drop_zero,show((0:Nat):Int)=0 from rfl]at h3
  have heq:y57_2 M (uLs bf bs) (uIs bl (atC xs s)) g0 g1 (uEs b2 es) (i:Int) paths seen=y57_3 M (uLs bf bs) (uIs bl (atC xs s)) g0 g1 (uEs b2 es) (i:Int) 0 paths seen w:=by
   rw[y57_2_eq]
   simp only[hp.len,show((i:Int)<((layer.length:Nat):Int)) by omega,decide_true,if_true,p1,p2,oS,cell_uIs,len_uIs,idx_end (hend _ (lM hlt)) (show layer[i].1.length≤1000000 by omega),cell_c,asI_c,w1,asSl_sl]
  rw[drop_cons hlt]
  unfold hitL
  cases hf:(mv es layer[i].2).find? (condB (DD es N) xs s)with
  |some x=>
   rw[hf]at h3
   simp only
   rw[heq]
   exact h3
  |none=>
   rw[hf]at h3
   simp only
   rw[heq,h3]
   exact ih (i+1) (by omega)
theorem y57_5_is(hok: ∀e∈es,eOK (N:Int) e=true){bl:Bool}{free:U}{ch:List Int}(hcl:ch.length≤1000000)(he:es.length≤2000){paths l:Sx}{layer:List PE}(hp:SxP paths layer)(hll:layer.length≤10000){i:Nat}(hi:i<layer.length)(hpl:layer[i].1.length≤900000)(hl:SxI l (ixF es layer[i].2 12 0)):
  ∀(d k:Nat) (seen next:Sx) (ks:List Int) (rows:List PE),k+d=(ixF es layer[i].2 12 0).length→SxI seen ks→SxP next rows→(ks.Nodup∧ ∀q∈ks,0≤q∧q<(N:Int))→N≤60→rows.length≤ks.length→
  ∃seen' next',SxI seen' (((mv es layer[i].2).drop k).foldl (step3 (fun x=> !decide (x.a∈ch)) layer[i]) (ks,rows)).1∧SxP next' (((mv es layer[i].2).drop k).foldl (step3 (fun x=> !decide (x.a∈ch)) layer[i]) (ks,rows)).2∧
   y57_5 M free (uIs bl ch) g0 g1 (uEs b2 es) (i:Int) (k:Int) paths seen next l=y57_4 M free (uIs bl ch) g0 g1 (uEs b2 es) ((i+1:Nat):Int) paths seen' next':=by
 have hlen:=ixF_len (es:=es) layer[i].2 12 0
 have hml:=ix_mv_len (es:=es) layer[i].2
 obtain⟨p1,p2⟩:=hp.get hi
 intro d
 induction d with
 |zero=>
  intro k seen next ks rows hk h1 h2 _ _ _
  rw[dL (by omega),y57_5_eq]
  simp only[hl.len,show¬((k:Int)<(((ixF es layer[i].2 12 0).length:Nat):Int)) by omega,decide_false,bF,if_false,wrap_succ (show i≤1000000000 by omega)]
  exact⟨seen,next,h1,h2,rfl⟩
 |succ d ih=>
  intro k seen next ks rows hk hsn hnx hnd hN hrk
  have hlt:k<(ixF es layer[i].2 12 0).length:=by omega
  obtain⟨j,e,h1,h2,h3,h4⟩:=ix_edge hlt
  obtain⟨l1,l2⟩:=hl.get hlt
  obtain⟨f,f0,f1,f2,f3⟩:=struct_uE e
  have hks:=nodup_le hnd
  have h39:=y39_is (M:=M) (b1:=seen.b) (l:=ks) (v:=e.t) (by omega)
  rw[y57_5_eq,drop_cons h3,List.foldl_cons,h4]
  simp only[hl.len,show((k:Int)<(((ixF es layer[i].2 12 0).length:Nat):Int)) by omega,decide_true,if_true,l1,l2,oS,cell_c,asI_c,h1,idx_uEs h2,f0,f1,f2,f3,i_uI,y39_is hcl,toU_val,asB_c,hsn.fz,h39]
  by_cases hm:e.a∈ch
  ·have hst:step3 (fun x=> !decide (x.a∈ch)) layer[i] (ks,rows) e=(ks,rows):=by simp[step3,hm]
   simp only[hm,decide_true,Bool.not_true,bF,if_false,oS,y57_6_eq,wrap_succ (show k≤1000000000 by omega),hst]
   exact ih (k+1) seen next ks rows (by omega) hsn hnx hnd hN hrk
  ·by_cases hk2:e.t∈ks
   ·have hst:step3 (fun x=> !decide (x.a∈ch)) layer[i] (ks,rows) e=(ks,rows):=by simp[step3,hk2]
    simp only[hm,hk2,decide_true,decide_false,Bool.not_true,Bool.not_false,bF,if_false,if_true,oS,y57_6_eq,wrap_succ (show k≤1000000000 by omega),hst]
    exact ih (k+1) seen next ks rows (by omega) hsn hnx hnd hN hrk
   ·have hst:step3 (fun x=> !decide (x.a∈ch)) layer[i] (ks,rows) e=(ks++[e.t],rows++[rowOf layer[i] e]):=by simp[step3,hm,hk2,rowOf]
    obtain⟨sn',q1,q2⟩:=hsn.app e.t (by omega)
    obtain⟨so,so',q3,q4,q5,q6⟩:=own_app (M:=M) (p:=layer[i].1) (x:=e.a) (y:=e.t) hpl
    obtain⟨nx',q7,q8⟩:=hnx.app (p:=rowOf layer[i] e) q5 q6 (by omega)
    have hnd':=fold_nodup hok (ok:=fun x=> !decide (x.a∈ch)) (p:=layer[i]) [e] (fun x hx=>by simp only[List.mem_cons,List.not_mem_nil,or_false]at hx;subst hx;exact List.mem_of_getElem? h2) (ks,rows) hnd
    simp only[List.foldl_cons,List.foldl_nil,hst]at hnd'
    obtain⟨seen',next',j1,j2,j3⟩:=ih (k+1) sn' nx' (ks++[e.t]) (rows++[rowOf layer[i] e]) (by omega) q2 q8 hnd' hN (by simp;omega)
    simp only[hm,hk2,decide_false,Bool.not_false,if_true,oS,q1,p1,p2,cell_uIs,q3,asSl_sl,q4,q7,y57_6_eq,wrap_succ (show k≤1000000000 by omega),j3,hst]
    exact⟨seen',next',j1,j2,rfl⟩
theorem y57_4_is(hok: ∀e∈es,eOK (N:Int) e=true){bl:Bool}{free:U}{ch:List Int}(hcl:ch.length≤1000000)(he:es.length≤2000){paths:Sx}{layer:List PE}(hp:SxP paths layer)(hll:layer.length≤10000)(hpl: ∀p∈layer,p.1.length≤900000)(hend: ∀p∈layer,endP p)(hN:N≤60):
  ∀(d i:Nat) (seen next:Sx) (ks:List Int) (rows:List PE),i+d=layer.length→SxI seen ks→SxP next rows→(ks.Nodup∧ ∀q∈ks,0≤q∧q<(N:Int))→rows.length≤ks.length→
  ∃seen' next',SxI seen' (nextL es (fun x=> !decide (x.a∈ch)) (layer.drop i) (ks,rows)).1∧SxP next' (nextL es (fun x=> !decide (x.a∈ch)) (layer.drop i) (ks,rows)).2∧
   y57_4 M free (uIs bl ch) g0 g1 (uEs b2 es) (i:Int) paths seen next=y57_1 M free (uIs bl ch) g0 g1 (uEs b2 es) next' seen':=by
 intro d
 induction d with
 |zero=>
  intro i seen next ks rows hi h1 h2 _ _
  rw[dL (by omega),y57_4_eq]
  simp only[hp.len,show¬((i:Int)<((layer.length:Nat):Int)) by omega,decide_false,bF,if_false]
  exact⟨seen,next,h1,h2,rfl⟩
 |succ d ih=>
  intro i seen next ks rows hi hsn hnx hnd hrk
  have hlt:i<layer.length:=by omega
  obtain⟨p1,p2⟩:=hp.get hlt
  have hpl1:=hpl _ (lM hlt)
  obtain⟨w,w1,w2⟩:=y90_is (M:=M) (b2:=b2) (g0:=g0) (g1:=g1) he (x:=layer[i].2)
  obtain⟨sn,nx,k1,k2,k3⟩:=y57_5_is (M:=M) (b2:=b2) (g0:=g0) (g1:=g1) (free:=free) (bl:=bl) hok hcl he hp hll hlt hpl1 w2 _ 0 seen next ks rows (Nat.zero_add _) hsn hnx hnd hN hrk
  rw[List.drop_zero]at k1 k2
  rw[show((0:Nat):Int)=0 from rfl]at k3
  have hk:=fold_known (ok:=fun x=> !decide (x.a∈ch)) (p:=layer[i]) (mv es layer[i].2) (ks,rows)
  have hnd2:=fold_nodup hok (ok:=fun x=> !decide (x.a∈ch)) (p:=layer[i]) (mv es layer[i].2) (fun x hx=>(mem_mv hx).1) (ks,rows) hnd
  obtain⟨sn2,nx2,j1,j2,j3⟩:=ih (i+1) sn nx _ _ (by omega) k1 k2 hnd2 (by simp only at hk;omega)
  rw[y57_4_eq,drop_cons hlt]
  simp only[hp.len,show((i:Int)<((layer.length:Nat):Int)) by omega,decide_true,if_true,p1,p2,oS,cell_uIs,len_uIs,idx_end (hend _ (lM hlt)) (show layer[i].1.length≤1000000 by omega),cell_c,asI_c,w1,asSl_sl,k3,j3]
  exact⟨sn2,nx2,by unfold nextL at j1⊢;rw[List.foldl_cons];exact j1,by unfold nextL at j2⊢;rw[List.foldl_cons];exact j2,rfl⟩
theorem y57_1_is(hN:N≤60)(hok: ∀e∈es,eOK (N:Int) e=true)(hs:es.Pairwise lt3){bs:List (Bool×List Int)}{bf bl:Bool}(hb:bs.map (·.2)=rows es N 12){s:Nat}(hch: ∀q∈atC xs s,0≤q∧q<12)(hcl:(atC xs s).length≤1000000)(he:es.length≤2000){r:List Int}:
  ∀(f:Nat) (m:Nat) (paths seen:Sx) (ks:List Int) (layer:List PE),SxP paths layer→SxI seen ks→LayS m layer→m+2*f≤900000→(∀p∈layer,endP p)→layer.length≤10000→(ks.Nodup∧ ∀q∈ks,0≤q∧q<(N:Int))→befF es (DD es N) xs s f ks layer=some r→
  ∃o,y57_1 M (uLs bf bs) (uIs bl (atC xs s)) g0 g1 (uEs b2 es) paths seen=some (.sl o)∧SxI o r:=by
 intro f
 induction f with
 |zero=>intro _ _ _ _ _ _ _ _ _ _ _ _ h;cases h
 |succ f ih=>
  intro m paths seen ks layer hp hsn hlay hmf hend hll hnd hr
  simp only[befF]at hr
  rw[y57_1_eq]
  by_cases h0:layer=[]
  ·subst h0
   rw[if_pos rfl]at hr
   cases hr
   simp only[hp.len,List.length_nil,show¬((0:Int)<((0:Nat):Int)) by omega,decide_false,bF,if_false]
   exact⟨_,rfl, .nil⟩
  ·rw[if_neg h0,bestL_hit hs hlay]at hr
   have hpos:0<layer.length:=List.length_pos_iff.2 h0
   have hpl: ∀p∈layer,p.1.length≤900000:=fun p hp=>by have:=hlay.len p hp;omega
   have h2:=y57_2_is (M:=M) (b2:=b2) (g0:=g0) (g1:=g1) (bf:=bf) (bl:=bl) (seen:=seen) hok hb hch hcl he hp hll hpl hend _ 0 (Nat.zero_add _)
   rw[List.drop_zero,show((0:Nat):Int)=0 from rfl]at h2
   simp only[hp.len,show(0:Int)<((layer.length:Nat):Int) by omega,decide_true,if_true]
   cases hh:hitL es (condB (DD es N) xs s) layer with
   |some b=>
    rw[hh]at h2 hr
    cases hr
    exact h2
   |none=>
    rw[hh]at h2 hr
    simp only at h2 hr
    obtain⟨sn,nx,j1,j2,j3⟩:=y57_4_is (M:=M) (b2:=b2) (g0:=g0) (g1:=g1) (bl:=bl) (free:=uLs bf bs) (ch:=atC xs s) hok hcl he hp hll hpl hend hN _ 0 seen ⟨false,0,[]⟩ ks [] (Nat.zero_add _) hsn ⟨rfl,fun _=>rfl,fun h=>by cases h⟩ hnd (Nat.zero_le _)
    rw[List.drop_zero]at j1 j2
    rw[show((0:Nat):Int)=0 from rfl]at j3
    rw[h2,j3]
    exact ih (m+2) nx sn _ _ j2 j1 (next_lays hs hlay) (by omega) (next_end layer _ (fun q hq=>by cases hq)) (by have:=next_len hN hok (ok:=fun x=> !decide (x.a∈atC xs s)) (layer:=layer) hnd;omega) (next_nodup hok layer _ hnd) hr
theorem y57_is(hN:N≤60)(hok: ∀e∈es,eOK (N:Int) e=true)(hs:es.Pairwise lt3){bs:List (Bool×List Int)}{bf bl:Bool}(hb:bs.map (·.2)=rows es N 12){s:Nat}(hsN:s<N)(hch: ∀q∈atC xs s,0≤q∧q<12)(hcl:(atC xs s).length≤1000000)(he:es.length≤2000){r:List Int}(hne:atC xs s≠enabled es (s:Int))(hr:befR es (DD es N) xs s=some r):
  ∃o,y57 M g0 g1 (uEs b2 es) (uLs bf bs) (s:Int) (uIs bl (atC xs s))=some (.sl o)∧SxI o r:=by
 unfold befR at hr
 rw[if_neg hne]at hr
 rw[y57_eq]
 exact y57_1_is hN hok hs hb hch hcl he 100 1 _ _ _ _ ⟨rfl,fun h=>(by cases h),fun _=>rfl⟩ ⟨rfl,fun h=>(by cases h),fun _=>rfl⟩ ⟨by simp,fun p hp=>by simp only[List.mem_cons,List.not_mem_nil,or_false]at hp;subst hp;rfl⟩ (by omega)
  (fun p hp=>by simp only[List.mem_cons,List.not_mem_nil,or_false]at hp;subst hp;exact⟨[],rfl⟩) (by simp) ⟨by simp,fun k hk=>by simp only[List.mem_cons,List.not_mem_nil,or_false]at hk;subst hk;omega⟩ hr
end
end Go.Proofs.Ythjjbkiejkhjfaa.R
