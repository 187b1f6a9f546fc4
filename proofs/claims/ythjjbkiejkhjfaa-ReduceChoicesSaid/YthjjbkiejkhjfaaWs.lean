/- A part of the proof. -/
import Derived.Test.YthjjbkiejkhjfaaWr
namespace Go.Proofs.Ythjjbkiejkhjfaa.R
open Go Go.Proofs.Ythjjbkiejkhjfaa.Vm
set_option linter.unusedVariables false
set_option linter.unusedSimpArgs false
variable{M:YM}
def HasBC(M:YM):Prop:=(∀us,M.ext 81 us=pickY BefP us)∧ ∀us,M.ext 54 us=pickY CirP us
section
variable{N:Nat}{n:Int}{b1 b2 b3:Bool}{l lab:List Int}{es:List E3}{xs:List (Bool×List Int)}{u1 g1:U}{v:Nat→Bool}
theorem y81_is(hM:HasBC M)(hN:N≤60)(he:es.length≤2000)(hok: ∀e∈es,eOK (N:Int) e=true)(hn:xs.length=N)(hx: ∀x∈xs,x.2.length≤1000000){s:Nat}(hs:s<N)(hch: ∀q∈atC xs s,0≤q∧q<12){r:List Int}(hr:befR es (DD es N) xs s=some r):
  y81 M (chX N u1 b2 es (DD es N) v b3 xs) (s:Int)=some (.val (rowU r)):=by
 unfold y81 yrunM
 rw[yrun_eq]
 have:Vm.ystepR M.ext yprog md (Vm.yrun M.ext yprog md) 81 0 [.val (chX N u1 b2 es (DD es N) v b3 xs), .val (.c (.int .i64 (s:Int)))] []=M.ext 81 [chX N u1 b2 es (DD es N) v b3 xs,uI (s:Int)]:=by kernel_rfl
 rw[this,hM.1,pickY_is (P:=BefP) (fun _ _ _ h k=>BefP.one h k) (r:=r) ⟨N,es,xs,s,⟨⟨u1,b2,v,b3,rfl⟩,hN,he,hok,hn,hx,hs⟩,hch,hr⟩]
theorem y54_is(hM:HasBC M)(hN:N≤60)(he:es.length≤2000)(hok: ∀e∈es,eOK (N:Int) e=true)(hn:xs.length=N)(hx: ∀x∈xs,x.2.length≤1000000){s:Nat}(hs:s<N){r:List Int}(hr:cirR es xs s=some r):
  y54 M (chX N u1 b2 es (DD es N) v b3 xs) (s:Int)=some (.val (rowU r)):=by
 unfold y54 yrunM
 rw[yrun_eq]
 have:Vm.ystepR M.ext yprog md (Vm.yrun M.ext yprog md) 54 0 [.val (chX N u1 b2 es (DD es N) v b3 xs), .val (.c (.int .i64 (s:Int)))] []=M.ext 54 [chX N u1 b2 es (DD es N) v b3 xs,uI (s:Int)]:=by kernel_rfl
 rw[this,hM.2,pickY_is (P:=CirP) (fun _ _ _ h k=>CirP.one h k) (r:=r) ⟨N,es,xs,s,⟨⟨u1,b2,v,b3,rfl⟩,hN,he,hok,hn,hx,hs⟩,hr⟩]
theorem hitL_len{cond:E3→Bool}{m:Nat}: ∀{layer:List PE} {r:List Int},hitL es cond layer=some r→(∀p∈layer,p.1.length=m)→r.length=m+1
 | [],r,h,_=>by cases h
 |p::layer,r,h,hl=>by
  unfold hitL at h
  split at h
  ·cases h;simp[hl p (by simp)]
  ·exact hitL_len h fun q hq=>hl q (by simp[hq])
theorem bef_len(hs:es.Pairwise lt3){D:Nat→Nat→Bool}{s:Nat}{r:List Int}: ∀(f:Nat) (m:Nat) (ks:List Int) (layer:List PE),LayS m layer→befF es D xs s f ks layer=some r→r.length≤m+2*f
 | 0,_,_,_,_,h=>by cases h
 |f+1,m,ks,layer,hl,h=>by
  simp only[befF]at h
  split at h
  ·cases h;exact Nat.zero_le _
  ·rw[bestL_hit hs hl]at h
   cases hh:hitL es (condB D xs s) layer with
   |some b=>
    rw[hh]at h
    cases h
    have:=hitL_len hh hl.len
    omega
   |none=>
    rw[hh]at h
    have:=bef_len hs f (m+2) _ _ (next_lays hs hl) h
    omega
theorem befR_len(hs:es.Pairwise lt3){D:Nat→Nat→Bool}{s:Nat}{r:List Int}(h:befR es D xs s=some r):r.length≤300:=by
 unfold befR at h
 split at h
 ·cases h;exact Nat.zero_le _
 ·have:=bef_len hs 100 1 _ _ ⟨by simp,fun p hp=>by simp only[List.mem_cons,List.not_mem_nil,or_false]at hp;subst hp;rfl⟩ h
  omega
theorem cir_len(hok: ∀e∈es,eOK (N:Int) e=true){s:Nat}{r:List Int}: ∀(f:Nat) (m:Nat) (ks:List Int) (layer:List PE),okL N m layer→cirF es xs s f ks layer=some r→r.length≤m+2*f
 | 0,_,_,_,_,h=>by cases h
 |f+1,m,ks,layer,hl,h=>by
  simp only[cirF]at h
  have hl2:=next_okL hok (ok:=okC es xs) layer hl (ks,[]) (fun p hp=>by cases hp)
  split at h
  ·cases h;exact Nat.zero_le _
  ·split at h
   ·rename_i p hp
    cases h
    have:=(hl2 p (List.mem_of_find?_eq_some hp)).2
    omega
   ·have:=cir_len hok f (m+2) _ _ hl2 h
    omega
theorem cirR_len(hok: ∀e∈es,eOK (N:Int) e=true){s:Nat}(hsN:s<N){r:List Int}(h:cirR es xs s=some r):r.length≤300:=by
 unfold cirR at h
 split at h
 ·cases h;exact Nat.zero_le _
 ·have:=cir_len hok 100 1 _ _ (fun p hp=>by simp only[List.mem_cons,List.not_mem_nil,or_false]at hp;subst hp;exact⟨⟨s,rfl,hsN⟩,by simp⟩) h
  omega
def fault1(es:List E3)(N:Nat)(xs:List (Bool×List Int))(v:Nat→Bool)(s:Nat):Option (Int×List Int):=
 if atC xs s=[]∧enabled es (s:Int)≠[]then some (1,[])else
 if atC xs s=enabled es (s:Int)then none else
 match befR es (DD es N) xs s with
 |some (x::r)=>some (2,x::r)
 |_=>((atC xs s).find? fun a=>v a.toNat).map fun a=>(3,[a])
def uF:Option (Int×Int×List Int)→U
 |none=> .st [uI 0,uI 0,rowU []]
 |some (s,k,l)=> .st [uI s,uI k,rowU l]
def uFb(b:Bool):Option (Int×Int×List Int)→U
 |none=> .st [uI 0,uI 0,uIs b []]
 |some (s,k,l)=> .st [uI s,uI k,uIs b l]
def tupF(s:Int)(o:Option (Int×List Int)):Option Rz:=some (.tup [uF (o.map fun q=>(s,q.1,q.2)), .c (.bool o.isSome)])
theorem y82_val{b:Bool}{l:List Int}{g:FuncId}{a c:List U}{p:Int→Bool}(hp: ∀n∈l,ycall M g (a++[uI n]++c)=some (.val (.c (.bool (p n)))))(hn:l.length≤1000000): ∀(d k:Nat),k+d=l.length→
  (∃(j:Nat) (x:Int),y82_1 M (uIs b l) (.fn g a c) (l.length:Int) (k:Int)=some (.val (uI (j:Int)))∧l[j]? =some x∧(l.drop k).find? p=some x)∨(y82_1 M (uIs b l) (.fn g a c) (l.length:Int) (k:Int)=some (.val (uI (-1)))∧(l.drop k).find? p=none):=by
 intro d
 induction d with
 |zero=>
  intro k hk
  rw[y82_1_eq,dL (by omega)]
  exact .inr ⟨by simp[show¬((k:Int)<l.length) by omega],rfl⟩
 |succ d ih=>
  intro k hk
  have hlt:k<l.length:=by omega
  have:=hp l[k] (lM hlt)
  simp only[uI]at this
  rw[y82_1_eq,drop_cons hlt,List.find?_cons]
  simp only[show((k:Int)<l.length) by omega,decide_true,if_true,idx_uIs (get?_of_lt hlt),oS,cell_c,asI_c,wrap_succ (show k≤1000000000 by omega),U.asF,this,toU_val,asB_c]
  cases h0:p l[k]with
  |true=>exact .inl ⟨k,l[k],by simp,get?_of_lt hlt,rfl⟩
  |false=>exact ih (k+1) (by omega)
theorem isNil_rowU(r:List Int):U.isNil .slice (rowU r)=some r.isEmpty:=by
 cases r<;>rfl
theorem one_rowU(r:List Int):U.one (rowU r)=some (rowU r):=rfl
theorem y53_is(hM:HasBC M)(hN:N≤60)(he:es.length≤2000)(hok: ∀e∈es,eOK (N:Int) e=true)(hn:xs.length=N)(hx: ∀x∈xs,x.2.length≤1000000){s:Nat}(hs:s<N)(hch: ∀q∈atC xs s,0≤q∧q<12):
  y53 M (chX N u1 b2 es (DD es N) v b3 xs) (s:Int)=tupF (s:Int) (fault1 es N xs v s):=by
 obtain⟨w,w0,w1,w2,w3,w4⟩:=ch_fields (openU N u1 b2 es) (DD es N) v (uLs b3 xs)
 obtain⟨v',v0,v1,v2,v3,v4,v5⟩:=openU_fields N u1 b2 es
 obtain⟨b,hb⟩:=idx_atC (b3:=b3) (show s<xs.length by omega)
 have hlen:(atC xs s).length≤1000000:=getD_len hx s
 obtain⟨r,hr⟩:=befR_some (N:=N) hN hok (D:=DD es N) (xs:=xs) hs
 have h81:=y81_is (M:=M) (u1:=u1) (b2:=b2) (b3:=b3) (v:=v) hM hN he hok hn hx hs hch hr
 have h84:=y84_is (M:=M) (u1:=u1) (b2:=b2) (b3:=b3) (D:=DD es N) (v:=v) hok hn hx hs
 have ho:U.one (chX N u1 b2 es (DD es N) v b3 xs)=some (chX N u1 b2 es (DD es N) v b3 xs):=rfl
 have w0':(chX N u1 b2 es (DD es N) v b3 xs).asR=some (w,0):=w0
 have hdead:decide ((0:Int)<((ixs gOut es s es.length).length:Int))= !decide (enabled es (s:Int)=[]):=by
  have:=en_dead hok s
  unfold deadB at this
  cases h1:ixs gOut es s es.length with
  |nil=>rw[h1]at this;simp[List.isEmpty_iff.1 this]
  |cons y r'=>
   rw[h1]at this
   have:enabled es (s:Int)≠[]:=fun h=>by rw[h]at this;cases this
   simp[this]<;>omega
 have hlc:decide (((atC xs s).length:Int)=0)=decide (atC xs s=[]):=by
  rw[decide_eq_decide]
  cases atC xs s with
  |nil=>simp
  |cons=>simp<;>omega
 have hq:(if decide (((atC xs s).length:Int)=0)=true then some (decide ((0:Int)<((ixs gOut es s es.length).length:Int)))else some (decide (((atC xs s).length:Int)=0)))=some (decide (atC xs s=[]∧enabled es (s:Int)≠[])):=by
  rw[hlc,hdead]
  by_cases h1:atC xs s=[]<;>by_cases h2:enabled es (s:Int)=[]<;>simp[h1,h2]
 have h82:=y82_val (M:=M) (b:=b) (l:=atC xs s) (g:=83) (a:=[]) (c:=[.ref (.st [chX N u1 b2 es (DD es N) v b3 xs]) 0]) (p:=fun a=>v a.toNat) (fun c hc=>by
  obtain⟨c0,c1⟩:=hch c hc
  obtain⟨m,rfl⟩:=Int.eq_ofNat_of_zero_le c0
  rw[iN]
  exact y83_is (M:=M) (u1:=u1) (b2:=b2) (b3:=b3) (es:=es) (N:=N) (D:=DD es N) (v:=v) (xs:=xs) (a:=m) (by omega)) hlen _ 0 (Nat.zero_add _)
 rw[List.drop_zero,show((0:Nat):Int)=0 from rfl]at h82
 rw[y53_eq]
 simp only[ho,w0',w1,w2,hb,oS,cell_uIs,len_uIs,v0,v4,idx_out hs,cell_rowU,len_rowU]
 rw[hq]
 unfold fault1
 by_cases h1:atC xs s=[]∧enabled es (s:Int)≠[]
 ·simp only[h1,not_false_eq_true,ne_eq,and_self,decide_true,oS,if_true]
  rfl
 simp only[h1,decide_false,oS,bF,if_false,h81,toU_val,one_rowU,isNil_rowU,hr]
 by_cases h2:atC xs s=enabled es (s:Int)
 ·have hr0:r=[]:=by
   unfold befR at hr
   rw[if_pos h2]at hr
   cases hr;rfl
  subst hr0
  rw[if_pos h2]
  simp only[h2,decide_true]at h84
  rcases h82 with⟨j,x,k1,k2,k3⟩ |⟨k1,k3⟩
  ·simp only[List.isEmpty_nil,bne_self_eq_false,bF,if_false,y82_eq,len_uIs,oS,k1,toU_val,asI_uI,show(0:Int)≤(j:Int) by omega,decide_true,if_true,h84,asB_c,Bool.not_true]
   rfl
  ·simp only[List.isEmpty_nil,bne_self_eq_false,bF,if_false,y82_eq,len_uIs,oS,k1,toU_val,asI_uI,show¬((0:Int)≤ -1) by omega,decide_false]
   rfl
 rw[if_neg h2]
 simp only[h2,decide_false]at h84
 cases r with
 |cons x r=>
  simp only[List.isEmpty_cons,Bool.false_bne,if_true]
  rfl
 |nil=>
  rcases h82 with⟨j,x,k1,k2,k3⟩ |⟨k1,k3⟩
  ·simp only[List.isEmpty_nil,bne_self_eq_false,bF,if_false,y82_eq,len_uIs,oS,k1,toU_val,asI_uI,show(0:Int)≤(j:Int) by omega,decide_true,if_true,h84,asB_c,Bool.not_false,idx_uIs k2,cell_c,asI_c,k3,Option.map_some]
   rfl
  ·simp only[List.isEmpty_nil,bne_self_eq_false,bF,if_false,y82_eq,len_uIs,oS,k1,toU_val,asI_uI,show¬((0:Int)≤ -1) by omega,decide_false,k3,Option.map_none]
   rfl
def faultA(es:List E3)(N:Nat)(xs:List (Bool×List Int))(v:Nat→Bool):Nat→Nat→Option (Int×Int×List Int)
 | 0,_=>none
 |d+1,s=>match fault1 es N xs v s with
  |some (k,l)=>some ((s:Int),k,l)
  |none=>faultA es N xs v d (s+1)
def faultB(es:List E3)(xs:List (Bool×List Int)):Nat→Nat→Option (Int×Int×List Int)
 | 0,_=>none
 |d+1,s=>match cirR es xs s with
  |some (x::r)=>some ((s:Int),4,x::r)
  |_=>faultB es xs d (s+1)
def faultAll(es:List E3)(N:Nat)(xs:List (Bool×List Int))(v:Nat→Bool):Option (Int×Int×List Int):=
 match faultA es N xs v N 0 with
 |some q=>some q
 |none=>faultB es xs N 0
def resF(o:Option (Int×Int×List Int)):Option Rz:=some (.tup [uF o,uI (if o.isSome=true then 31 else 0)])
theorem res_or(a b:Option (Int×Int×List Int)):(match a with
  |some q=>resF (some q)
  |none=>resF b)=resF (match a with
  |some q=>some q
  |none=>b):=by cases a<;>rfl
theorem exact_uF(o:Option (Int×Int×List Int)): ∃f,U.exact (uF o) ks6=some f∧f 0=uI (o.getD (0,0,[])).1∧f 1=uI (o.getD (0,0,[])).2.1∧f 2=rowU (o.getD (0,0,[])).2.2:=by
 cases o<;>exact⟨_,rfl,rfl,rfl,rfl⟩
theorem y13_2_is(hM:HasBC M)(hN:N≤60)(he:es.length≤2000)(hok: ∀e∈es,eOK (N:Int) e=true)(hn:xs.length=N)(hx: ∀x∈xs,x.2.length≤1000000){z0 z1:Int}{z2:Sx}: ∀(d s:Nat),s+d=N→y13_2 M z0 z1 (chX N u1 b2 es (DD es N) v b3 xs) (N:Int) (s:Int) z2=resF (faultB es xs d s):=by
 intro d
 induction d with
 |zero=>
  intro s hs
  rw[y13_2_eq]
  simp only[show¬((s:Int)<(N:Int)) by omega,decide_false,bF,if_false,faultB]
  rfl
 |succ d ih=>
  intro s hs
  obtain⟨r,hr⟩:=cirR_some (N:=N) hN hok (xs:=xs) (show s<N by omega)
  have h54:=y54_is (M:=M) (u1:=u1) (b2:=b2) (b3:=b3) (v:=v) hM hN he hok hn hx (show s<N by omega) hr
  rw[y13_2_eq]
  simp only[show((s:Int)<(N:Int)) by omega,decide_true,if_true,h54,oS,toU_val,one_rowU,isNil_rowU,faultB,hr,wrap_succ (show s≤1000000000 by omega),ih (s+1) (by omega)]
  cases r with
  |nil=>rfl
  |cons x r=>rfl
theorem y13_1_is(hM:HasBC M)(hN:N≤60)(he:es.length≤2000)(hok: ∀e∈es,eOK (N:Int) e=true)(hn:xs.length=N)(hx: ∀x∈xs,x.2.length≤1000000)(hch: ∀s,s<N→ ∀q∈atC xs s,0≤q∧q<12){a1 a2:U}{z0 z1:Int}{z2:Sx}: ∀(d s:Nat),s+d=N→
  y13_1 M (N:Int) a1 a2 z0 z1 (chX N u1 b2 es (DD es N) v b3 xs) (N:Int) (s:Int) z2=match faultA es N xs v d s with
   |some q=>resF (some q)
   |none=>resF (faultB es xs N 0):=by
 intro d
 induction d with
 |zero=>
  intro s hs
  have h2:=y13_2_is (M:=M) (u1:=u1) (b2:=b2) (b3:=b3) (v:=v) (z0:=z0) (z1:=z1) (z2:=z2) hM hN he hok hn hx N 0 (by omega)
  rw[y13_1_eq]
  simp only[show¬((s:Int)<(N:Int)) by omega,decide_false,bF,if_false,faultA]
  exact h2
 |succ d ih=>
  intro s hs
  have h53:=y53_is (M:=M) (u1:=u1) (b2:=b2) (b3:=b3) (v:=v) hM hN he hok hn hx (show s<N by omega) (hch s (by omega))
  obtain⟨f,f0,f1,f2,f3⟩:=exact_uF ((fault1 es N xs v s).map fun q=>((s:Int),q.1,q.2))
  rw[y13_1_eq]
  simp only[show((s:Int)<(N:Int)) by omega,decide_true,if_true,h53,tupF,oS,asTup_tup,List.getElem?_cons_zero,List.getElem?_cons_succ,f0,f1,f2,f3,asB_c,i_uI,wrap_succ (show s≤1000000000 by omega),ih (s+1) (by omega),faultA]
  cases fault1 es N xs v s with
  |none=>rfl
  |some q=>rfl
theorem y52_is(hM:HasOpen M)(hN:N≤60)(he:es.length≤2000)(hed:edgesOK (N:Int) none es=true)(hlab:lab.length=N):y52 M (N:Int) u1 (uEs b2 es) (uIs b1 lab) (uLs b3 xs)=some (.val (chX N u1 b2 es (DD es N) (visB lab es) b3 xs)):=by
 have hok:=edgesOK_all hed
 have ho:U.one (openU N u1 b2 es)=some (openU N u1 b2 es):=rfl
 obtain⟨f,f0,f1⟩:=exact_bV (visB lab es)
 have hs1:U.size (openU N u1 b2 es)=1:=rfl
 have hs2:U.size (bQ (DD es N))=144:=by simp[U.size,U.cells,bQ]
 have hs3:U.size (bV (visB lab es))=12:=rfl
 have hs4:U.size (uLs b3 xs)=1:=rfl
 have hbv:=bV_lit (visB lab es)
 rw[y52_eq]
 simp only[y61_is hM hN he hed,oS,toU_val,ho,y67_is hN he hok (sorted_of hed).2,y66_is (M:=M) (N:=N) hlab he hok,f0,f1 0 (by omega),f1 1 (by omega),f1 2 (by omega),f1 3 (by omega),f1 4 (by omega),f1 5 (by omega),f1 6 (by omega),f1 7 (by omega),f1 8 (by omega),f1 9 (by omega),f1 10 (by omega),f1 11 (by omega),U.b]
 rw[←hbv,if_pos hs1,if_pos hs2,if_pos hs3,if_pos hs4,if_pos]
 ·rfl
 ·simp[U.size,U.cells,bQ,bV,openU,uLs]
def glcErr(n:Int)(l:List Int)(es:List E3)(lab:List Int)(xs:List (Bool×List Int)):Int:=if gErr n l es=0 then(if lErr n lab=0 then cErr n es xs else lErr n lab)else gErr n l es
theorem form_ok: ∀{d s:Nat},formErr es xs d s=0→ ∀k,s≤k→k<s+d→ ∀q∈atC xs k,q∈enabled es (k:Int)
 | 0,s,_,k,h1,h2=>by omega
 |d+1,s,h,k,h1,h2=>by
  simp only[formErr]at h
  split at h
  ·rename_i h0
   by_cases hk:k=s
   ·subst hk
    intro q hq
    unfold setErr at h0
    split at h0
    ·split at h0
     ·rename_i h4
      have:=List.all_eq_true.1 h4 q hq
      simpa using this
     ·cases h0
    ·cases h0
   ·exact form_ok h k (by omega) (by omega)
  ·rename_i h0;exact absurd h h0
theorem cErr_ok(h:cErr (N:Int) es xs=0):xs.length=N∧ ∀s,s<N→ ∀q∈atC xs s,0≤q∧q<12:=by
 unfold cErr at h
 split at h
 ·rename_i h0
  have hl:xs.length=N:=by omega
  refine⟨hl,fun s hs q hq=> ?_⟩
  have:=form_ok h s (Nat.zero_le _) (by omega) q hq
  obtain⟨j,_,h2,rfl,_⟩:=mem_picks.1 this
  omega
 ·cases h
theorem y13_is(hO:HasOpen M)(hM:HasBC M){n:Int}(hl:l.length≤1000000)(he:es.length≤1000000)(hb:lab.length≤1000000)(hx: ∀x∈xs,x.2.length≤1000000):
  y13 M n (uIs b1 l) (uEs b2 es) (uIs true lab) (uLs b3 xs)=some (.tup [uF (if glcErr n l es lab xs=0 then faultAll es n.toNat xs (visB lab es)else none),uI (if glcErr n l es lab xs=0 then(if(faultAll es n.toNat xs (visB lab es)).isSome=true then 31 else 0)else glcErr n l es lab xs)]):=by
 rw[y13_eq]
 simp only[y48_is hl he,oS,toU_val,asI_c]
 by_cases h0:gErr n l es=0
 rotate_left
 ·have:glcErr n l es lab xs=gErr n l es:=by unfold glcErr;rw[if_neg h0]
  simp only[this,h0,decide_false,Bool.not_false,if_true,if_false]
  rfl
 have hlit:=fun a b=>y49_lit (M:=M) [a,b] (by simp)
 simp only[List.map_cons,List.map_nil,uI]at hlit
 simp only[h0,decide_true,Bool.not_true,bF,if_false,y50_is hb,y51_is hO h0 hx,oS,toU_val,asI_c,hlit]
 have hf:firstErr [lErr n lab,cErr n es xs]=glcErr n l es lab xs:=by
  unfold glcErr
  rw[if_pos h0]
  by_cases h1:lErr n lab=0
  ·by_cases h2:cErr n es xs=0<;>simp[firstErr,h1,h2]
  ·simp[firstErr,h1]
 rw[hf]
 by_cases h1:glcErr n l es lab xs=0
 rotate_left
 ·simp only[h1,decide_false,Bool.not_false,if_true,if_false]
  rfl
 have h2:=h1
 unfold glcErr at h2
 rw[if_pos h0]at h2
 split at h2
 rotate_left
 ·rename_i h3;exact absurd h2 h3
 rename_i h3
 obtain⟨N,rfl,hN,g4,_,hok,hed⟩:=gErr_nat h0
 obtain⟨c1,c2⟩:=cErr_ok h2
 have hlab:=lErr_len h3
 have h52:=y52_is (M:=M) (u1:=uIs b1 l) (b1:=true) (b2:=b2) (b3:=b3) (xs:=xs) hO hN g4 hed (show lab.length=N by omega)
 have h13:=y13_1_is (M:=M) (u1:=uIs b1 l) (b2:=b2) (b3:=b3) (v:=visB lab es) (a1:=uIs b1 l) (a2:=uEs b2 es) (z0:=0) (z1:=0) (z2:=⟨false,0,[]⟩) hM hN g4 hok c1 hx c2 N 0 (by omega)
 rw[show((0:Nat):Int)=0 from rfl]at h13
 have ho:U.one (chX N (uIs b1 l) b2 es (DD es N) (visB lab es) b3 xs)=some (chX N (uIs b1 l) b2 es (DD es N) (visB lab es) b3 xs):=rfl
 simp only[h1,decide_true,Bool.not_true,bF,if_false,if_true,h52,oS,toU_val,ho,h13,iN]
 exact(res_or _ _).trans rfl
theorem y21_2_is{g0:Int}(hn:xs.length=N)(hx: ∀x∈xs,x.2.length≤1000000){s:Nat}(hs:s<N)(hN:N≤60){z0 z1:Int}{z2 free shown:Sx}{sh:List Int}(hsh:shown.es=sh.map uI)(hsl:sh.length≤1000000): ∀(d i:Nat),i+d=(atC xs s).length→
  y21_2 M (uLs b3 xs) g0 g1 (uEs b2 es) z0 z1 (s:Int) (i:Int) z2 free shown=match((atC xs s).drop i).find? (fun a=>decide (a∈sh))with
   |some a=>some (.tup [uFb true (some ((s:Int),3,[a])), .c (.bool true)])
   |none=>y21_1 M (uLs b3 xs) g0 g1 (uEs b2 es) z0 z1 ((s+1:Nat):Int) z2 free shown:=by
 obtain⟨b,hb⟩:=idx_atC (b3:=b3) (show s<xs.length by omega)
 have hlen:(atC xs s).length≤1000000:=getD_len hx s
 have hfz:shown.fz=uIs shown.b sh:=by unfold Sx.fz uIs;rw[hsh]
 intro d
 induction d with
 |zero=>
  intro i hi
  rw[y21_2_eq,dL (by omega)]
  simp only[hb,oS,cell_uIs,len_uIs,show¬((i:Int)<((atC xs s).length:Int)) by omega,decide_false,bF,if_false,List.find?_nil,wrap_succ (show s≤1000000000 by omega)]
 |succ d ih=>
  intro i hi
  have hlt:i<(atC xs s).length:=by omega
  rw[y21_2_eq,drop_cons hlt,List.find?_cons]
  simp only[hb,oS,cell_uIs,len_uIs,show((i:Int)<((atC xs s).length:Int)) by omega,decide_true,if_true,idx_uIs (get?_of_lt hlt),cell_c,asI_c,hfz,y39_is hsl,toU_val,asB_c,wrap_succ (show i≤1000000000 by omega),ih (i+1) (by omega)]
  by_cases h:(atC xs s)[i]∈sh
  ·simp only[h,decide_true,if_true]
   rfl
  ·simp only[h,decide_false,bF,if_false]
theorem y21_3_is(hN:N≤60)(he:es.length≤2000)(hok: ∀e∈es,eOK (N:Int) e=true)(hn:xs.length=N)(hx: ∀x∈xs,x.2.length≤1000000){z0 z1:Int}{z2:Sx}: ∀(d s:Nat),s+d=N→
  ∃b,y21_3 M (uLs b3 xs) (N:Int) g1 (uEs b2 es) z0 z1 (s:Int) z2=some (.tup [uFb b (faultB es xs d s), .c (.bool (faultB es xs d s).isSome)]):=by
 intro d
 induction d with
 |zero=>
  intro s hs
  rw[y21_3_eq]
  simp only[show¬((s:Int)<(N:Int)) by omega,decide_false,bF,if_false,faultB]
  exact⟨false,rfl⟩
 |succ d ih=>
  intro s hs
  obtain⟨r,hr⟩:=cirR_some (N:=N) hN hok (xs:=xs) (show s<N by omega)
  obtain⟨o,o1,o2⟩:=y58_is (M:=M) (b2:=b2) (b3:=b3) (g0:=(N:Int)) (g1:=g1) hN hok hn hx he (show s<N by omega) hr
  obtain⟨b,hb⟩:=ih (s+1) (by omega)
  rw[y21_3_eq]
  simp only[show((s:Int)<(N:Int)) by omega,decide_true,if_true,o1,asSl_sl,oS,o2.len,o2.fz,faultB,hr,wrap_succ (show s≤1000000000 by omega),hb]
  cases r with
  |nil=>exact⟨b,rfl⟩
  |cons x r=>
   simp only[List.length_cons,show((0:Int)<((r.length+1:Nat):Int)) by omega,decide_true,if_true]
   exact⟨o.b,rfl⟩
theorem y21_1_is(hN:N≤60)(he:es.length≤2000)(hok: ∀e∈es,eOK (N:Int) e=true)(hs:es.Pairwise lt3)(hn:xs.length=N)(hx: ∀x∈xs,x.2.length≤1000000)(hch: ∀s,s<N→ ∀q∈atC xs s,0≤q∧q<12){z0 z1:Int}{z2 free shown:Sx}{bs:List (Bool×List Int)}{fb:Bool}(hfz:free.fz=uLs fb bs)(hb:bs.map (·.2)=rows es N 12)(hsh:shown.es=(picks v 12 0).map uI): ∀(d s:Nat),s+d=N→
  ∃b,y21_1 M (uLs b3 xs) (N:Int) g1 (uEs b2 es) z0 z1 (s:Int) z2 free shown=match faultA es N xs v d s with
   |some q=>some (.tup [uFb b (some q), .c (.bool true)])
   |none=>some (.tup [uFb b (faultB es xs N 0), .c (.bool (faultB es xs N 0).isSome)]):=by
 have hpl:=picks_len v 12 0
 intro d
 induction d with
 |zero=>
  intro s hs'
  obtain⟨b,hb⟩:=y21_3_is (M:=M) (b2:=b2) (b3:=b3) (g1:=g1) (z0:=z0) (z1:=z1) (z2:=z2) hN he hok hn hx N 0 (by omega)
  rw[y21_1_eq]
  simp only[show¬((s:Int)<(N:Int)) by omega,decide_false,bF,if_false,faultA]
  exact⟨b,hb⟩
 |succ d ih=>
  intro s hs'
  have hsN:s<N:=by omega
  obtain⟨bx,hbx⟩:=idx_atC (b3:=b3) (show s<xs.length by omega)
  have hlen:(atC xs s).length≤1000000:=getD_len hx s
  obtain⟨e,e1,e2⟩:=y42_is (M:=M) (b2:=b2) he (g0:=(N:Int)) (x:=(s:Int)) (g1:=g1)
  obtain⟨r,hr⟩:=befR_some (N:=N) hN hok (D:=DD es N) (xs:=xs) hsN
  have h56:=y56_is (M:=M) (b2:=b2) (b3:=b3) (g0:=(N:Int)) (g1:=g1) he hx (show s<xs.length by omega)
  have h212:=y21_2_is (M:=M) (b2:=b2) (b3:=b3) (g0:=(N:Int)) (g1:=g1) (z0:=z0) (z1:=z1) (z2:=z2) (free:=free) (es:=es) hn hx hsN hN hsh (by omega) _ 0 (Nat.zero_add _)
  rw[List.drop_zero,show((0:Nat):Int)=0 from rfl]at h212
  obtain⟨b,ih'⟩:=ih (s+1) (by omega)
  have hle:decide ((0:Int)<((enabled es (s:Int)).length:Int))= !decide (enabled es (s:Int)=[]):=by
   cases enabled es (s:Int)with
   |nil=>simp
   |cons=>simp<;>omega
  have hlc:decide (((atC xs s).length:Int)=0)=decide (atC xs s=[]):=by
   rw[decide_eq_decide]
   cases atC xs s with
   |nil=>simp
   |cons=>simp<;>omega
  have hq:(if decide (((atC xs s).length:Int)=0)=true then some (decide ((0:Int)<((enabled es (s:Int)).length:Int)))else some (decide (((atC xs s).length:Int)=0)))=some (decide (atC xs s=[]∧enabled es (s:Int)≠[])):=by
   rw[hlc,hle]
   by_cases h1:atC xs s=[]<;>by_cases h2:enabled es (s:Int)=[]<;>simp[h1,h2]
  have hfind:(atC xs s).find? (fun a=>decide (a∈picks v 12 0))=(atC xs s).find? fun a=>v a.toNat:=by
   have: ∀l:List Int,(∀q∈l,0≤q∧q<12)→l.find? (fun a=>decide (a∈picks v 12 0))=l.find? fun a=>v a.toNat:=by
    intro l
    induction l with
    |nil=>intro _;rfl
    |cons q l ihl=>
     intro h
     obtain⟨q0,q1⟩:=h q (by simp)
     obtain⟨m,rfl⟩:=Int.eq_ofNat_of_zero_le q0
     have hqv:decide ((m:Int)∈picks v 12 0)=v m:=by
      rw[Bool.eq_iff_iff,decide_eq_true_eq,mem_picks]
      constructor
      ·rintro⟨j,_,_,h3,h4⟩
       have:j=m:=by omega
       subst this;exact h4
      ·intro h
       exact⟨m,by omega,by omega,rfl,h⟩
     rw[List.find?_cons,List.find?_cons,hqv,iN,ihl fun q hq=>h q (by simp[hq])]
   exact this _ (hch s hsN)
  rw[hfind]at h212
  rw[y21_1_eq]
  simp only[show((s:Int)<(N:Int)) by omega,decide_true,if_true,e1,asSl_sl,oS,e2.len,hbx,cell_uIs,len_uIs]
  rw[hq]
  unfold faultA fault1
  by_cases h1:atC xs s=[]∧enabled es (s:Int)≠[]
  ·simp only[h1,not_false_eq_true,ne_eq,and_self,decide_true,oS,if_true]
   exact⟨false,rfl⟩
  simp only[h1,decide_false,oS,bF,if_false,h56,toU_val,asB_c]
  by_cases h2:atC xs s=enabled es (s:Int)
  ·simp only[h2,decide_true,if_true,wrap_succ (show s≤1000000000 by omega)]
   exact⟨b,ih'⟩
  obtain⟨o,o1,o2⟩:=y57_is (M:=M) (b2:=b2) (g0:=(N:Int)) (g1:=g1) (bf:=fb) (bl:=bx) hN hok hs hb hsN (hch s hsN) hlen he h2 hr
  simp only[h2,decide_false,bF,if_false,hfz,o1,oS,asSl_sl,o2.len,o2.fz,hr]
  cases r with
  |cons x r=>
   simp only[List.length_cons,show((0:Int)<((r.length+1:Nat):Int)) by omega,decide_true,if_true]
   exact⟨o.b,rfl⟩
  |nil=>
   simp only[List.length_nil,show¬((0:Int)<((0:Nat):Int)) by omega,decide_false,bF,if_false,h212]
   cases(atC xs s).find? fun a=>v a.toNat with
   |some a=>exact⟨true,rfl⟩
   |none=>exact⟨b,ih'⟩
theorem y21_is(hN:N≤60)(he:es.length≤2000)(hok: ∀e∈es,eOK (N:Int) e=true)(hs:es.Pairwise lt3)(hn:xs.length=N)(hx: ∀x∈xs,x.2.length≤1000000)(hch: ∀s,s<N→ ∀q∈atC xs s,0≤q∧q<12)(hlab:lab.length=N):
  ∃b,y21 M (N:Int) g1 (uEs b2 es) (uIs b1 lab) (uLs b3 xs)=some (.tup [uFb b (faultAll es N xs (visB lab es)), .c (.bool (faultAll es N xs (visB lab es)).isSome)]):=by
 obtain⟨s,j1,j2⟩:=y36_is (M:=M) (b2:=b2) (g1:=g1) hN he hok
 obtain⟨bs,e1,e2⟩:=j1.fz
 obtain⟨t,t1,t2⟩:=y32_is (M:=M) (b2:=b2) (b3:=b1) (g0:=(N:Int)) (g1:=g1) hlab he hok
 obtain⟨b,hb⟩:=y21_1_is (M:=M) (b2:=b2) (b3:=b3) (g1:=g1) (v:=visB lab es) (z0:=0) (z1:=0) (z2:=⟨false,0,[]⟩) hN he hok hs hn hx hch e1 e2 t2 N 0 (by omega)
 rw[show((0:Nat):Int)=0 from rfl]at hb
 rw[y21_eq]
 simp only[j2,t1,oS,asSl_sl,hb]
 refine⟨b, ?_⟩
 unfold faultAll
 cases faultA es N xs (visB lab es) N 0<;>rfl
end
end Go.Proofs.Ythjjbkiejkhjfaa.R
