/- - -/
import Derived.Test.YthjjbkiejkhjfaaWp
set_option linter.all false
namespace Go.Proofs.Ythjjbkiejkhjfaa.R
open Go Go.Proofs.Ythjjbkiejkhjfaa.Vm
variable{M:YM}
section
variable{N:Nat}{b1 b2 b3:Bool}{es:List E3}{xs:List (Bool×List Int)}{g1:U}{g0:Int}
def ixF(es:List E3)(x:Int):Nat->Nat->List Int
 | 0,_=>[]
 |d+1,a=>stepsL es x (a:Int)++ixF es x d (a+1)
theorem X0f(x:Int): ∀d a,(ixF es x d a).map (edgeAt es)=mvF es x d a
 | 0,_=>rfl
 |d+1,a=>by simp only[ixF,mvF,List.map_append,X0f x d (a+1)]
theorem J0B(x:Int): ∀d a,(ixF es x d a).length<=es.length*d
 | 0,_=>Nat.zero_le _
 |d+1,a=>by
  have:=J0B x d (a+1)
  have h2:=q0k (es:=es) x (a:Int)
  simp only[ixF,List.length_append,Nat.mul_succ]
  omega
theorem J0C{s:Sx}{l:List Int}(h:SxI s l)(r:List Int)(hn:l.length+r.length<=1000000): ∃s',Sx.app s 1 (r.map uI)=some s'/\SxI s' (l++r):=by
 by_cases h0:s.b=false/\r=[]
 ·obtain⟨hb,rfl⟩:=h0
  refine⟨s, ?_,by simpa using h⟩
  unfold Sx.app
  rw[if_pos,if_pos ⟨hb,rfl⟩]
  exact⟨.inl hb,rfl,by show _<=_;rw[h.len];simp;omega⟩
 ·refine⟨⟨true,1,s.es++r.map uI⟩, ?_,by rw[h.es];simp,fun h=>(by cases h),fun _=>rfl⟩
  unfold Sx.app
  rw[if_pos,if_neg]
  ·exact fun h2=>h0 ⟨h2.1,by simpa using h2.2⟩
  ·refine⟨?_,List.all_eq_true.2 fun v hv=> ?_,by show _<=_;rw[h.len];simp;omega⟩
   ·cases hb:s.b with
    |false=>exact .inl rfl
    |true=>exact .inr (h.z hb)
   ·obtain⟨n,_,rfl⟩:=List.mem_map.1 hv
    rfl
theorem w1C(he:es.length<=2000){x:Int}: ∀(d a:Nat) (out:Sx) (lo:List Int),a+d=12->SxI out lo->lo.length+2000*d<=1000000-> ∃s,y90_1 M x g0 g1 (uEs b2 es) (a:Int) out=some (.sl s)/\SxI s (lo++ixF es x d a):=by
 intro d
 induction d with
 |zero=>
  intro a out lo ha ho hl
  rw[Y0K]
  simp only[show¬((a:Int)<12) by omega,dF,bF,iF,ho.scals,iT,ixF,List.append_nil]
  exact⟨out,rfl,ho⟩
 |succ d ih=>
  intro a out lo ha ho hl
  obtain⟨s,s1,s2⟩:=w0G (M:=M) (b2:=b2) he (g0:=g0) (x:=x) (a:=(a:Int)) (g1:=g1)
  have hlen:=q0k (es:=es) x (a:Int)
  obtain⟨o',g1',g2⟩:=J0C ho (stepsL es x (a:Int)) (by omega)
  obtain⟨o,k1,k2⟩:=ih (a+1) o' _ (by omega) g2 (by simp;omega)
  rw[<-s2.es]at g1'
  rw[Y0K]
  simp only[show((a:Int)<12) by omega,dY,iT,s1,oS,asSl_sl,g1',q0a (show a<=1000000000 by omega),k1]
  exact⟨o,rfl,by simpa[ixF]using k2⟩
theorem z1o(he:es.length<=2000){x:Int}: ∃s,y90 M g0 g1 (uEs b2 es) x=some (.sl s)/\SxI s (ixF es x 12 0):=by
 rw[W1N]
 exact w1C he 12 0 _ [] (by omega) .nil (by simp)
theorem K0P{x:Int}{k:Nat}(hk:k<(ixF es x 12 0).length): ∃(j:Nat) (e:E3),(ixF es x 12 0)[k]=(j:Int)/\es[j]? =some e/\ ∃h:k<(mv es x).length,(mv es x)[k]=e:=by
 have hmem: ∀d a,∀i∈ixF es x d a,∃(j:Nat) (e:E3),i=(j:Int)/\es[j]? =some e:=by
  intro d
  induction d with
  |zero=>intro a i h;cases h
  |succ d ih=>
   intro a i h
   simp only[ixF,mA]at h
   rcases h with h |h
   ·obtain⟨j,e,h1,h2,_⟩:=mem_steps.1 h
    exact⟨j,e,h1,h2⟩
   ·exact ih _ i h
 obtain⟨j,e,h1,h2⟩:=hmem 12 0 _ (lM hk)
 have hl:(mv es x).length=(ixF es x 12 0).length:=by unfold mv;rw[<-X0f];simp
 refine⟨j,e,h1,h2,by omega, ?_⟩
 have h3:(mv es x)[k]? =((ixF es x 12 0).map (edgeAt es))[k]? :=by rw[X0f];rfl
 rw[List.getElem?_map,q0b hk,Option.map_some,h1,j0w h2]at h3
 exact(gE.1 h3).2
theorem Q0j(x:Int):(mv es x).length=(ixF es x 12 0).length:=by unfold mv;rw[<-X0f];simp
theorem w1D{bs:List (Bool×List Int)}{bf bl:Bool}(hb:bs.map (·.2)=rows es N 12){a:Nat}(ha:a<12){l:List Int}(hl: ∀q∈l,0<=q/\q<12)(hn:l.length<=1000000): ∀(d k:Nat),k+d=l.length->y91_1 M (uLs bf bs) (a:Int) (uIs bl l) (k:Int)=some (.val (.c (.bool ((l.drop k).any fun q=>DD es N a q.toNat)))):=by
 intro d
 induction d with
 |zero=>
  intro k hk
  rw[Y0L,dL (by omega)]
  simp only[len_uIs,oS,show¬((k:Int)<l.length) by omega,dF,bF,iF,List.any_nil]
 |succ d ih=>
  intro k hk
  have hlt:k<l.length:=by omega
  obtain⟨br,hr⟩:=j1E hb ha
  obtain⟨q0,q1⟩:=hl _ (lM hlt)
  obtain⟨q,hq⟩:=iZ q0
  have hm:=W0L (es:=es) (N:=N) (a:=a) (b:=q) (by omega)
  have h39:=z0N (M:=M) (b1:=br) (l:=free es N a) (v:=(q:Int)) (by have:=W0K es N a;omega)
  rw[Y0L,q0c hlt]
  simp only[len_uIs,oS,show((k:Int)<l.length) by omega,dY,iT,z0U hr,q0m (q0b hlt),cell_uIs,cell_c,asI_c,List.any_cons,q0a (show k<=1000000000 by omega),ih (k+1) (by omega)]
  rw[hq,h39]
  simp only[oS,toU_val,asB_c,hm,Bool.not_not,iN]
  cases DD es N a q<;>simp
theorem K1D{bs:List (Bool×List Int)}{bf bl:Bool}(hb:bs.map (·.2)=rows es N 12){a:Nat}(ha:a<12){l:List Int}(hl: ∀q∈l,0<=q/\q<12)(hn:l.length<=1000000):y91 M (uLs bf bs) (a:Int) (uIs bl l)=some (.val (.c (.bool (l.any fun q=>DD es N a q.toNat)))):=by
 have:=w1D (M:=M) (bf:=bf) (bl:=bl) hb ha hl hn l.length 0 (by omega)
 rw[List.drop_zero,show((0:Nat):Int)=0 from rfl]at this
 rw[W1O]
 exact this
structure SxP (s:Sx) (l:List PE):Prop where
 es:s.es=l.map fun p=>uIs true p.1
 b:s.b=false->l=[]
 z:s.b=true->s.sz=1
theorem SxP.len{s:Sx}{l:List PE}(h:SxP s l):s.es.length=l.length:=by rw[h.es];simp
theorem SxP.get{s:Sx}{l:List PE}(h:SxP s l){k:Nat}(hk:k<l.length):Sx.has s 1 (k:Int)=true/\(s.es)[((k:Int)).toNat]? =some (uIs true l[k].1):=by
 refine⟨?_,by rw[h.es];simp[hk]⟩
 have hb:s.b=true:=by
  cases hb:s.b with
  |true=>rfl
  |false=>have:=h.b hb;subst this;simp at hk
 unfold Sx.has
 rw[h.z hb,h.len]
 simp[hk]
theorem SxP.app{s:Sx}{l:List PE}(h:SxP s l){r:Sx}{p:PE}(hr:SxI r p.1)(hb:r.b=true)(hn:l.length<=1000000): ∃s',Sx.app s 1 [Sx.fz r]=some s'/\SxP s' (l++[p]):=by
 refine⟨⟨true,1,s.es++[Sx.fz r]⟩,w0Q rfl ?_ (by rw[h.len];exact hn), ?_,fun h=>(by cases h),fun _=>rfl⟩
 ·cases hb:s.b with
  |false=>exact .inl rfl
  |true=>exact .inr (h.z hb)
 ·rw[h.es,hr.fz,hb];simp
def endP(p:PE):Prop:= ∃q,p.1=q++[p.2]
theorem K0Q{p:PE}(h:endP p)(hn:p.1.length<=1000000):U.idx 1 (uIs true p.1) (IntKind.wrap .i64 ((p.1.length:Int) - 1))=some (uI p.2):=by
 obtain⟨q,hq⟩:=h
 have hl:p.1.length=q.length+1:=by rw[hq];simp
 have:IntKind.wrap .i64 ((p.1.length:Int) - 1)=(q.length:Int):=by rw[z0s (by omega) (by omega)];omega
 rw[this]
 refine q0m ?_
 rw[hq];simp
theorem X0g{ok:E3->Bool}{p:PE}: ∀(ms:List E3) (st:List Int×List PE),(∀q∈st.2,endP q)-> ∀q∈(ms.foldl (step3 ok p) st).2,endP q
 | [],st,h=>h
 |x::ms,st,h=>by
  refine X0g ms _ ?_
  unfold step3
  split
  ·intro q hq
   rcases mA.1 hq with hq |hq
   ·exact h q hq
   ·simp only[mC,List.not_mem_nil,or_false]at hq
    subst hq
    exact⟨p.1++[x.a],by simp⟩
  ·exact h
theorem J0D{ok:E3->Bool}: ∀(layer:List PE) (st:List Int×List PE),(∀q∈st.2,endP q)-> ∀q∈(nextL es ok layer st).2,endP q
 | [],st,h=>h
 |p::layer,st,h=>by
  unfold nextL
  rw[List.foldl_cons]
  exact J0D layer _ (X0g _ st h)
theorem z1p{p:List Int}{x y:Int}(hn:p.length<=900000): ∃s s',y15 M (uIs true p)=some (.sl s)/\Sx.app s 1 [.c (.int .i64 x), .c (.int .i64 y)]=some s'/\SxI s' (p++[x,y])/\s'.b=true:=by
 have h15:=W0v (M:=M) (b:=true) (l:=p) (by omega)
 obtain⟨s',g1,g2⟩:=J0C (SxI.of_lit p) [x,y] (by simp;omega)
 refine⟨_,s',h15,g1,g2, ?_⟩
 cases hb:s'.b with
 |true=>rfl
 |false=>have:=g2.b hb;rw[g2.es]at this;simp at this
theorem w1E(hok: ∀e∈es,eOK (N:Int) e=true){bs:List (Bool×List Int)}{bf bl:Bool}(hb:bs.map (·.2)=rows es N 12){s:Nat}(hch: ∀q∈atC xs s,0<=q/\q<12)(hcl:(atC xs s).length<=1000000)(he:es.length<=2000){paths seen l:Sx}{layer:List PE}(hp:SxP paths layer)(hll:layer.length<=10000){i:Nat}(hi:i<layer.length)(hpl:layer[i].1.length<=900000)(hl:SxI l (ixF es layer[i].2 12 0)):
  ∀(d k:Nat),k+d=(ixF es layer[i].2 12 0).length->
  match((mv es layer[i].2).drop k).find? (condB (DD es N) xs s)with
  |some x=> ∃o,y57_3 M (uLs bf bs) (uIs bl (atC xs s)) g0 g1 (uEs b2 es) (i:Int) (k:Int) paths seen l=some (.sl o)/\SxI o (layer[i].1++[x.a])
  |none=>y57_3 M (uLs bf bs) (uIs bl (atC xs s)) g0 g1 (uEs b2 es) (i:Int) (k:Int) paths seen l=y57_2 M (uLs bf bs) (uIs bl (atC xs s)) g0 g1 (uEs b2 es) ((i+1:Nat):Int) paths seen:=by
 have hlen:=J0B (es:=es) layer[i].2 12 0
 have hml:=Q0j (es:=es) layer[i].2
 obtain⟨p1,p2⟩:=hp.get hi
 intro d
 induction d with
 |zero=>
  intro k hk
  rw[dL (by omega),Y0q]
  simp only[hl.len,show¬((k:Int)<(((ixF es layer[i].2 12 0).length:Nat):Int)) by omega,dF,bF,iF,List.find?_nil,q0a (show i<=1000000000 by omega)]
 |succ d ih=>
  intro k hk
  have hlt:k<(ixF es layer[i].2 12 0).length:=by omega
  obtain⟨j,e,h1,h2,h3,h4⟩:=K0P hlt
  obtain⟨l1,l2⟩:=hl.get hlt
  obtain⟨⟨_,_,ha0,ha1⟩,_,_⟩:=q0w (hok e (List.mem_of_getElem? h2))
  obtain⟨a,ha⟩:=iZ ha0
  have hat:e.a.toNat=a:=by omega
  have h91:=K1D (M:=M) (bf:=bf) (bl:=bl) hb (a:=a) (by omega) hch hcl
  have hcd:condB (DD es N) xs s e=(!decide (e.a∈atC xs s)&&(atC xs s).any fun q=>DD es N a q.toNat):=by unfold condB;rw[hat]
  have hq:(if(!decide (e.a∈atC xs s))=true then
    (y91 M (uLs bf bs) e.a (uIs bl (atC xs s))).bind fun r10=>
    (Rz.toU r10).bind fun u11=>
    (U.asB u11).bind fun b12=>some b12
    else some (!decide (e.a∈atC xs s)))=some (condB (DD es N) xs s e):=by
   rw[hcd]
   by_cases hm:e.a∈atC xs s
   ·simp[hm]
   ·rw[ha]at hm⊢
    simp[hm,h91]
  have ih':=ih (k+1) (by omega)
  rw[q0c h3,List.find?_cons,h4]
  have h15:=W0v (M:=M) (b:=true) (l:=layer[i].1) (by omega)
  obtain⟨s',q1,q2⟩:=J0C (SxI.of_lit layer[i].1) [e.a] (by simp;omega)
  have heq:y57_3 M (uLs bf bs) (uIs bl (atC xs s)) g0 g1 (uEs b2 es) (i:Int) (k:Int) paths seen l=if condB (DD es N) xs s e=true then some (.sl s')else y57_3 M (uLs bf bs) (uIs bl (atC xs s)) g0 g1 (uEs b2 es) (i:Int) ((k+1:Nat):Int) paths seen l:=by
   rw[Y0q]
   simp only[hl.len,show((k:Int)<(((ixF es layer[i].2 12 0).length:Nat):Int)) by omega,dY,iT,l1,l2,oS,cell_c,asI_c,h1,q0l h2,cell_uE2,z0N hcl,toU_val,asB_c]
   rw[hq]
   simp only[oS,p1,iT,p2,cell_uIs,h15,asSl_sl,q0a (show k<=1000000000 by omega)]
   simp only[List.map_cons,List.map_nil,uI]at q1
   simp only[q1,oS,q2.scals,iT]
  cases hc:condB (DD es N) xs s e with
  |true=>simp only;rw[heq,hc];exact⟨s',rfl,q2⟩
  |false=>simp only;rw[heq,hc];exact ih'
theorem w1F(hok: ∀e∈es,eOK (N:Int) e=true){bs:List (Bool×List Int)}{bf bl:Bool}(hb:bs.map (·.2)=rows es N 12){s:Nat}(hch: ∀q∈atC xs s,0<=q/\q<12)(hcl:(atC xs s).length<=1000000)(he:es.length<=2000){paths seen:Sx}{layer:List PE}(hp:SxP paths layer)(hll:layer.length<=10000)(hpl: ∀p∈layer,p.1.length<=900000)(hend: ∀p∈layer,endP p):
  ∀(d i:Nat),i+d=layer.length->
  match hitL es (condB (DD es N) xs s) (layer.drop i)with
  |some r=> ∃o,y57_2 M (uLs bf bs) (uIs bl (atC xs s)) g0 g1 (uEs b2 es) (i:Int) paths seen=some (.sl o)/\SxI o r
  |none=>y57_2 M (uLs bf bs) (uIs bl (atC xs s)) g0 g1 (uEs b2 es) (i:Int) paths seen=y57_4 M (uLs bf bs) (uIs bl (atC xs s)) g0 g1 (uEs b2 es) 0 paths seen ⟨false,0,[]⟩:=by
 intro d
 induction d with
 |zero=>
  intro i hi
  rw[dL (by omega),Y0p]
  simp only[hp.len,show¬((i:Int)<((layer.length:Nat):Int)) by omega,dF,bF,iF,hitL]
 |succ d ih=>
  intro i hi
  have hlt:i<layer.length:=by omega
  obtain⟨p1,p2⟩:=hp.get hlt
  have hpl1:=hpl _ (lM hlt)
  obtain⟨w,w1,w2⟩:=z1o (M:=M) (b2:=b2) (g0:=g0) (g1:=g1) he (x:=layer[i].2)
  have h3:=w1E (M:=M) (b2:=b2) (g0:=g0) (g1:=g1) (seen:=seen) (bf:=bf) (bl:=bl) hok hb hch hcl he hp hll hlt hpl1 w2 _ 0 (Nat.zero_add _)
  rw[List.drop_zero,show((0:Nat):Int)=0 from rfl]at h3
  have heq:y57_2 M (uLs bf bs) (uIs bl (atC xs s)) g0 g1 (uEs b2 es) (i:Int) paths seen=y57_3 M (uLs bf bs) (uIs bl (atC xs s)) g0 g1 (uEs b2 es) (i:Int) 0 paths seen w:=by
   rw[Y0p]
   simp only[hp.len,show((i:Int)<((layer.length:Nat):Int)) by omega,dY,iT,p1,p2,oS,cell_uIs,len_uIs,K0Q (hend _ (lM hlt)) (show layer[i].1.length<=1000000 by omega),cell_c,asI_c,w1,asSl_sl]
  rw[q0c hlt]
  unfold hitL
  cases hf:(mv es layer[i].2).find? (condB (DD es N) xs s)with
  |some x=>
   rw[hf]at h3
   simp only
   rw[heq]
   exact h3
  |none=>
   rw[hf]at h3
   simp only
   rw[heq,h3]
   exact ih (i+1) (by omega)
theorem w1G(hok: ∀e∈es,eOK (N:Int) e=true){bl:Bool}{free:U}{ch:List Int}(hcl:ch.length<=1000000)(he:es.length<=2000){paths l:Sx}{layer:List PE}(hp:SxP paths layer)(hll:layer.length<=10000){i:Nat}(hi:i<layer.length)(hpl:layer[i].1.length<=900000)(hl:SxI l (ixF es layer[i].2 12 0)):
  ∀(d k:Nat) (seen next:Sx) (ks:List Int) (rows:List PE),k+d=(ixF es layer[i].2 12 0).length->SxI seen ks->SxP next rows->(ks.Nodup/\ ∀q∈ks,0<=q/\q<(N:Int))->N<=60->rows.length<=ks.length->
  ∃seen' next',SxI seen' (((mv es layer[i].2).drop k).foldl (step3 (fun x=> !decide (x.a∈ch)) layer[i]) (ks,rows)).1/\SxP next' (((mv es layer[i].2).drop k).foldl (step3 (fun x=> !decide (x.a∈ch)) layer[i]) (ks,rows)).2/\
   y57_5 M free (uIs bl ch) g0 g1 (uEs b2 es) (i:Int) (k:Int) paths seen next l=y57_4 M free (uIs bl ch) g0 g1 (uEs b2 es) ((i+1:Nat):Int) paths seen' next':=by
 have hlen:=J0B (es:=es) layer[i].2 12 0
 have hml:=Q0j (es:=es) layer[i].2
 obtain⟨p1,p2⟩:=hp.get hi
 intro d
 induction d with
 |zero=>
  intro k seen next ks rows hk h1 h2 _ _ _
  rw[dL (by omega),Y0s]
  simp only[hl.len,show¬((k:Int)<(((ixF es layer[i].2 12 0).length:Nat):Int)) by omega,dF,bF,iF,q0a (show i<=1000000000 by omega)]
  exact⟨seen,next,h1,h2,rfl⟩
 |succ d ih=>
  intro k seen next ks rows hk hsn hnx hnd hN hrk
  have hlt:k<(ixF es layer[i].2 12 0).length:=by omega
  obtain⟨j,e,h1,h2,h3,h4⟩:=K0P hlt
  obtain⟨l1,l2⟩:=hl.get hlt
  obtain⟨f,f0,f1,f2,f3⟩:=q0t e
  have hks:=j0n hnd
  have h39:=z0N (M:=M) (b1:=seen.b) (l:=ks) (v:=e.t) (by omega)
  rw[Y0s,q0c h3,List.foldl_cons,h4]
  simp only[hl.len,show((k:Int)<(((ixF es layer[i].2 12 0).length:Nat):Int)) by omega,dY,iT,l1,l2,oS,cell_c,asI_c,h1,q0l h2,f0,f1,f2,f3,i_uI,z0N hcl,toU_val,asB_c,hsn.fz,h39]
  by_cases hm:e.a∈ch
  ·have hst:step3 (fun x=> !decide (x.a∈ch)) layer[i] (ks,rows) e=(ks,rows):=by simp[step3,hm]
   simp only[hm,dY,Bool.not_true,bF,iF,oS,J0W,q0a (show k<=1000000000 by omega),hst]
   exact ih (k+1) seen next ks rows (by omega) hsn hnx hnd hN hrk
  ·by_cases hk2:e.t∈ks
   ·have hst:step3 (fun x=> !decide (x.a∈ch)) layer[i] (ks,rows) e=(ks,rows):=by simp[step3,hk2]
    simp only[hm,hk2,dY,dF,Bool.not_true,Bool.not_false,bF,iF,iT,oS,J0W,q0a (show k<=1000000000 by omega),hst]
    exact ih (k+1) seen next ks rows (by omega) hsn hnx hnd hN hrk
   ·have hst:step3 (fun x=> !decide (x.a∈ch)) layer[i] (ks,rows) e=(ks++[e.t],rows++[rowOf layer[i] e]):=by simp[step3,hm,hk2,rowOf]
    obtain⟨sn',q1,q2⟩:=hsn.app e.t (by omega)
    obtain⟨so,so',q3,q4,q5,q6⟩:=z1p (M:=M) (p:=layer[i].1) (x:=e.a) (y:=e.t) hpl
    obtain⟨nx',q7,q8⟩:=hnx.app (p:=rowOf layer[i] e) q5 q6 (by omega)
    have hnd':=j0r hok (ok:=fun x=> !decide (x.a∈ch)) (p:=layer[i]) [e] (fun x hx=>by simp only[mC,List.not_mem_nil,or_false]at hx;subst hx;exact List.mem_of_getElem? h2) (ks,rows) hnd
    simp only[List.foldl_cons,List.foldl_nil,hst]at hnd'
    obtain⟨seen',next',j1,j2,j3⟩:=ih (k+1) sn' nx' (ks++[e.t]) (rows++[rowOf layer[i] e]) (by omega) q2 q8 hnd' hN (by simp;omega)
    simp only[hm,hk2,dF,Bool.not_false,iT,oS,q1,p1,p2,cell_uIs,q3,asSl_sl,q4,q7,J0W,q0a (show k<=1000000000 by omega),j3,hst]
    exact⟨seen',next',j1,j2,rfl⟩
theorem w1H(hok: ∀e∈es,eOK (N:Int) e=true){bl:Bool}{free:U}{ch:List Int}(hcl:ch.length<=1000000)(he:es.length<=2000){paths:Sx}{layer:List PE}(hp:SxP paths layer)(hll:layer.length<=10000)(hpl: ∀p∈layer,p.1.length<=900000)(hend: ∀p∈layer,endP p)(hN:N<=60):
  ∀(d i:Nat) (seen next:Sx) (ks:List Int) (rows:List PE),i+d=layer.length->SxI seen ks->SxP next rows->(ks.Nodup/\ ∀q∈ks,0<=q/\q<(N:Int))->rows.length<=ks.length->
  ∃seen' next',SxI seen' (nextL es (fun x=> !decide (x.a∈ch)) (layer.drop i) (ks,rows)).1/\SxP next' (nextL es (fun x=> !decide (x.a∈ch)) (layer.drop i) (ks,rows)).2/\
   y57_4 M free (uIs bl ch) g0 g1 (uEs b2 es) (i:Int) paths seen next=y57_1 M free (uIs bl ch) g0 g1 (uEs b2 es) next' seen':=by
 intro d
 induction d with
 |zero=>
  intro i seen next ks rows hi h1 h2 _ _
  rw[dL (by omega),Y0r]
  simp only[hp.len,show¬((i:Int)<((layer.length:Nat):Int)) by omega,dF,bF,iF]
  exact⟨seen,next,h1,h2,rfl⟩
 |succ d ih=>
  intro i seen next ks rows hi hsn hnx hnd hrk
  have hlt:i<layer.length:=by omega
  obtain⟨p1,p2⟩:=hp.get hlt
  have hpl1:=hpl _ (lM hlt)
  obtain⟨w,w1,w2⟩:=z1o (M:=M) (b2:=b2) (g0:=g0) (g1:=g1) he (x:=layer[i].2)
  obtain⟨sn,nx,k1,k2,k3⟩:=w1G (M:=M) (b2:=b2) (g0:=g0) (g1:=g1) (free:=free) (bl:=bl) hok hcl he hp hll hlt hpl1 w2 _ 0 seen next ks rows (Nat.zero_add _) hsn hnx hnd hN hrk
  rw[List.drop_zero]at k1 k2
  rw[show((0:Nat):Int)=0 from rfl]at k3
  have hk:=z0x (ok:=fun x=> !decide (x.a∈ch)) (p:=layer[i]) (mv es layer[i].2) (ks,rows)
  have hnd2:=j0r hok (ok:=fun x=> !decide (x.a∈ch)) (p:=layer[i]) (mv es layer[i].2) (fun x hx=>(z0Q hx).1) (ks,rows) hnd
  obtain⟨sn2,nx2,j1,j2,j3⟩:=ih (i+1) sn nx _ _ (by omega) k1 k2 hnd2 (by simp only at hk;omega)
  rw[Y0r,q0c hlt]
  simp only[hp.len,show((i:Int)<((layer.length:Nat):Int)) by omega,dY,iT,p1,p2,oS,cell_uIs,len_uIs,K0Q (hend _ (lM hlt)) (show layer[i].1.length<=1000000 by omega),cell_c,asI_c,w1,asSl_sl,k3,j3]
  exact⟨sn2,nx2,by unfold nextL at j1⊢;rw[List.foldl_cons];exact j1,by unfold nextL at j2⊢;rw[List.foldl_cons];exact j2,rfl⟩
theorem w1I(hN:N<=60)(hok: ∀e∈es,eOK (N:Int) e=true)(hs:es.Pairwise lt3){bs:List (Bool×List Int)}{bf bl:Bool}(hb:bs.map (·.2)=rows es N 12){s:Nat}(hch: ∀q∈atC xs s,0<=q/\q<12)(hcl:(atC xs s).length<=1000000)(he:es.length<=2000){r:List Int}:
  ∀(f:Nat) (m:Nat) (paths seen:Sx) (ks:List Int) (layer:List PE),SxP paths layer->SxI seen ks->LayS m layer->m+2*f<=900000->(∀p∈layer,endP p)->layer.length<=10000->(ks.Nodup/\ ∀q∈ks,0<=q/\q<(N:Int))->befF es (DD es N) xs s f ks layer=some r->
  ∃o,y57_1 M (uLs bf bs) (uIs bl (atC xs s)) g0 g1 (uEs b2 es) paths seen=some (.sl o)/\SxI o r:=by
 intro f
 induction f with
 |zero=>intro _ _ _ _ _ _ _ _ _ _ _ _ h;cases h
 |succ f ih=>
  intro m paths seen ks layer hp hsn hlay hmf hend hll hnd hr
  simp only[befF]at hr
  rw[Q1E]
  by_cases h0:layer=[]
  ·subst h0
   rw[if_pos rfl]at hr
   cases hr
   simp only[hp.len,List.length_nil,show¬((0:Int)<((0:Nat):Int)) by omega,dF,bF,iF]
   exact⟨_,rfl, .nil⟩
  ·rw[if_neg h0,w0Y hs hlay]at hr
   have hpos:0<layer.length:=List.length_pos_iff.2 h0
   have hpl: ∀p∈layer,p.1.length<=900000:=fun p hp=>by have:=hlay.len p hp;omega
   have h2:=w1F (M:=M) (b2:=b2) (g0:=g0) (g1:=g1) (bf:=bf) (bl:=bl) (seen:=seen) hok hb hch hcl he hp hll hpl hend _ 0 (Nat.zero_add _)
   rw[List.drop_zero,show((0:Nat):Int)=0 from rfl]at h2
   simp only[hp.len,show(0:Int)<((layer.length:Nat):Int) by omega,dY,iT]
   cases hh:hitL es (condB (DD es N) xs s) layer with
   |some b=>
    rw[hh]at h2 hr
    cases hr
    exact h2
   |none=>
    rw[hh]at h2 hr
    simp only at h2 hr
    obtain⟨sn,nx,j1,j2,j3⟩:=w1H (M:=M) (b2:=b2) (g0:=g0) (g1:=g1) (bl:=bl) (free:=uLs bf bs) (ch:=atC xs s) hok hcl he hp hll hpl hend hN _ 0 seen ⟨false,0,[]⟩ ks [] (Nat.zero_add _) hsn ⟨rfl,fun _=>rfl,fun h=>by cases h⟩ hnd (Nat.zero_le _)
    rw[List.drop_zero]at j1 j2
    rw[show((0:Nat):Int)=0 from rfl]at j3
    rw[h2,j3]
    exact ih (m+2) nx sn _ _ j2 j1 (Z0s hs hlay) (by omega) (J0D layer _ (fun q hq=>by cases hq)) (by have:=w0n hN hok (ok:=fun x=> !decide (x.a∈atC xs s)) (layer:=layer) hnd;omega) (q0V hok layer _ hnd) hr
theorem K1E(hN:N<=60)(hok: ∀e∈es,eOK (N:Int) e=true)(hs:es.Pairwise lt3){bs:List (Bool×List Int)}{bf bl:Bool}(hb:bs.map (·.2)=rows es N 12){s:Nat}(hsN:s<N)(hch: ∀q∈atC xs s,0<=q/\q<12)(hcl:(atC xs s).length<=1000000)(he:es.length<=2000){r:List Int}(hne:atC xs s≠enabled es (s:Int))(hr:befR es (DD es N) xs s=some r):
  ∃o,y57 M g0 g1 (uEs b2 es) (uLs bf bs) (s:Int) (uIs bl (atC xs s))=some (.sl o)/\SxI o r:=by
 unfold befR at hr
 rw[if_neg hne]at hr
 rw[W1t]
 exact w1I hN hok hs hb hch hcl he 100 1 _ _ _ _ ⟨rfl,fun h=>(by cases h),fun _=>rfl⟩ ⟨rfl,fun h=>(by cases h),fun _=>rfl⟩ ⟨by simp,fun p hp=>by simp only[mC,List.not_mem_nil,or_false]at hp;subst hp;rfl⟩ (by omega)
  (fun p hp=>by simp only[mC,List.not_mem_nil,or_false]at hp;subst hp;exact⟨[],rfl⟩) (by simp) ⟨by simp,fun k hk=>by simp only[mC,List.not_mem_nil,or_false]at hk;subst hk;omega⟩ hr
end
end Go.Proofs.Ythjjbkiejkhjfaa.R
