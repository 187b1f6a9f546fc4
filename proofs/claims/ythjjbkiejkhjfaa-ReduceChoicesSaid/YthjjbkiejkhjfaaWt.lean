/- A part of the proof. -/
import Derived.Test.YthjjbkiejkhjfaaWs
import Derived.Test.YthjjbkiejkhjfaaWz
namespace Go.Proofs.Ythjjbkiejkhjfaa.R
open Go Go.Proofs.Ythjjbkiejkhjfaa.Vm
set_option linter.unusedVariables false
set_option linter.unusedSimpArgs false
section
variable{es:List E3}{xs ys:List (Bool×List Int)}{D:Nat→Nat→Bool}{N s:Nat}{v:Nat→Bool}
section
variable(h: ∀k,atC xs k=atC ys k)
include h
theorem condB_congr:condB D xs s=condB D ys s:=by funext x;unfold condB;rw[h]
theorem befF_congr: ∀f ks layer,befF es D xs s f ks layer=befF es D ys s f ks layer
 | 0,_,_=>rfl
 |f+1,ks,layer=>by simp only[befF,condB_congr h,h s,befF_congr f]
theorem okC_congr:okC es xs=okC es ys:=by funext x;unfold okC;rw[h,h]
theorem cirF_congr: ∀f ks layer,cirF es xs s f ks layer=cirF es ys s f ks layer
 | 0,_,_=>rfl
 |f+1,ks,layer=>by simp only[cirF,okC_congr h,cirF_congr f]
theorem befR_congr:befR es D xs s=befR es D ys s:=by unfold befR;rw[h s,befF_congr h]
theorem cirR_congr:cirR es xs s=cirR es ys s:=by unfold cirR;rw[h s,cirF_congr h]
theorem fault1_congr:fault1 es N xs v s=fault1 es N ys v s:=by unfold fault1;rw[h s,befR_congr h]
theorem faultA_congr: ∀d s,faultA es N xs v d s=faultA es N ys v d s
 | 0,_=>rfl
 |d+1,s=>by simp only[faultA,fault1_congr h,faultA_congr d]
theorem faultB_congr: ∀d s,faultB es xs d s=faultB es ys d s
 | 0,_=>rfl
 |d+1,s=>by simp only[faultB,cirR_congr h,faultB_congr d]
theorem faultAll_congr:faultAll es N xs v=faultAll es N ys v:=by unfold faultAll;rw[faultA_congr h,faultB_congr h]
end
theorem faultAll_cp:faultAll es N (cp xs) v=faultAll es N xs v:=faultAll_congr fun k=>getD_cp k
theorem fault1_len(hs:es.Pairwise lt3){k:Int}{l:List Int}(h:fault1 es N xs v s=some (k,l)):l.length≤300:=by
 unfold fault1 at h
 split at h
 ·cases h;exact Nat.zero_le _
 ·split at h
  ·cases h
  ·split at h
   ·rename_i hr
    have:=befR_len hs hr
    cases h
    exact this
   ·obtain⟨a,_,e⟩:=oM.1 h
    cases e
    simp
theorem faultA_len(hs:es.Pairwise lt3): ∀{d s:Nat} {q:Int×Int×List Int},faultA es N xs v d s=some q→q.2.2.length≤300
 | 0,_,_,h=>by cases h
 |d+1,s,q,h=>by
  unfold faultA at h
  split at h
  ·rename_i hf
   cases h
   exact fault1_len hs hf
  ·exact faultA_len hs h
theorem faultB_len(hok: ∀e∈es,eOK (N:Int) e=true): ∀{d s:Nat} {q:Int×Int×List Int},s+d=N→faultB es xs d s=some q→q.2.2.length≤300
 | 0,_,_,_,h=>by cases h
 |d+1,s,q,hd,h=>by
  unfold faultB at h
  split at h
  ·rename_i hr
   have:=cirR_len hok (show s<N by omega) hr
   cases h
   exact this
  ·exact faultB_len hok (by omega) h
theorem faultAll_len(hs:es.Pairwise lt3)(hok: ∀e∈es,eOK (N:Int) e=true){q:Int×Int×List Int}(h:faultAll es N xs v=some q):q.2.2.length≤300:=by
 unfold faultAll at h
 split at h
 ·rename_i hf
  cases h
  exact faultA_len hs hf
 ·exact faultB_len hok (by omega) h
theorem picks_asc(p:Nat→Bool): ∀d k,(picks p d k).Pairwise (· < ·)∧ ∀x∈picks p d k,(k:Int)≤x
 | 0,_=>⟨.nil,fun x h=>by cases h⟩
 |d+1,k=>by
  obtain⟨i1,i2⟩:=picks_asc p d (k+1)
  unfold picks
  split
  ·refine⟨.cons (fun x hx=>by have:=i2 x hx;omega) i1,fun x hx=> ?_⟩
   rcases List.mem_cons.1 hx with rfl |hx
   ·exact Int.le_refl _
   ·have:=i2 x hx;omega
  ·refine⟨i1,fun x hx=> ?_⟩
   have:=i2 x hx
   omega
theorem asc_of{l:List Int}(h:l.Pairwise (· < ·)): ∀d k,1≤k→k+d≤l.length→asc l d k=true
 | 0,_,_,_=>rfl
 |d+1,k,h1,h2=>by
  unfold asc
  rw[asc_of h d (k+1) (by omega) (by omega),Bool.and_true,decide_eq_true_eq,at0_get (show k - 1<l.length by omega),at0_get (show k<l.length by omega)]
  exact List.pairwise_iff_getElem.1 h _ _ _ _ (by omega)
theorem ascL_enabled(x:Int):ascL (enabled es x)=true:=by
 unfold ascL
 by_cases h:(enabled es x).length=0
 ·rw[h];rfl
 ·exact asc_of (l:=enabled es x) (picks_asc _ _ _).1 _ _ (nR _) (by omega)
theorem form_whole(h: ∀k,k<N→atC xs k=enabled es (k:Int)): ∀d s,s+d=N→formErr es xs d s=0
 | 0,_,_=>rfl
 |d+1,s,hd=>by
  have h1:(xs.getD s (false,[])).2=enabled es (s:Int):=h s (by omega)
  have h2:setErr es s (enabled es (s:Int))=0:=(setErr_vals es s _).2.2 (ascL_enabled _) (by simp)
  simp only[formErr,h1,h2,if_true]
  exact form_whole h d (s+1) (by omega)
theorem fault_whole(h: ∀k,k<N→atC xs k=enabled es (k:Int)):faultAll es N xs v=none:=by
 have hA: ∀d s,s+d=N→faultA es N xs v d s=none:=by
  intro d
  induction d with
  |zero=>intro s _;rfl
  |succ d ih=>
   intro s hs
   have:fault1 es N xs v s=none:=by
    unfold fault1
    rw[h s (by omega)]
    simp
   simp only[faultA,this,ih (s+1) (by omega)]
 have hB: ∀d s,s+d=N→faultB es xs d s=none:=by
  intro d
  induction d with
  |zero=>intro s _;rfl
  |succ d ih=>
   intro s hs
   have:cirR es xs s=some []:=by
    unfold cirR
    rw[if_pos (h s (by omega))]
   simp only[faultB,this,ih (s+1) (by omega)]
 unfold faultAll
 rw[hA N 0 (by omega)]
 exact hB N 0 (by omega)
end
section
variable{M:YM}{N:Nat}{n:Int}{b1 b2 b3 b4:Bool}{l lab:List Int}{es:List E3}{xs:List (Bool×List Int)}{u1 g1:U}{v:Nat→Bool}
theorem y22_1_is(he:es.length≤2000)(hN:N≤60): ∀(d s:Nat) (out:Sx),s+d=N→SxL out ((List.range s).map fun k:Nat=>enabled es (k:Int))→
  ∃o,y22_1 M (N:Int) g1 (uEs b2 es) (s:Int) out=some (.sl o)∧SxL o ((List.range N).map fun k:Nat=>enabled es (k:Int)):=by
 intro d
 induction d with
 |zero=>
  intro s out hs ho
  have:s=N:=by omega
  subst this
  rw[y22_1_eq]
  simp only[Int.lt_irrefl,decide_false,bF,if_false]
  exact⟨out,rfl,ho⟩
 |succ d ih=>
  intro s out hs ho
  obtain⟨e,e1,e2⟩:=y42_is (M:=M) (b2:=b2) he (g0:=(N:Int)) (x:=(s:Int)) (g1:=g1)
  obtain⟨o',g1',g2⟩:=ho.app e2 (by simp;omega)
  have:(List.range s).map (fun k:Nat=>enabled es (k:Int))++[enabled es (s:Int)]=(List.range (s+1)).map fun k:Nat=>enabled es (k:Int):=by rw[List.range_succ];simp
  rw[this]at g2
  obtain⟨o,k1,k2⟩:=ih (s+1) o' (by omega) g2
  rw[y22_1_eq]
  simp only[show((s:Int)<(N:Int)) by omega,decide_true,if_true,e1,asSl_sl,oS,g1',wrap_succ (show s≤1000000000 by omega),k1]
  exact⟨o,rfl,k2⟩
theorem y20_same{a b:Int}{r:List Int}{c c':Bool}(hn:r.length≤1000000):y20 M a b (uIs c r) a b (uIs c' r)=some (.val (.c (.bool true))):=by
 rw[y20_eq]
 simp only[decide_true,if_true,oS,y27_is hn,toU_val,asB_c]
theorem exact_uFb(b:Bool)(o:Option (Int×Int×List Int)): ∃f,U.exact (uFb b o) ks6=some f∧f 0=uI (o.getD (0,0,[])).1∧f 1=uI (o.getD (0,0,[])).2.1∧f 2=uIs b (o.getD (0,0,[])).2.2:=by
 cases o<;>exact⟨_,rfl,rfl,rfl,rfl⟩
theorem getD_len3{o:Option (Int×Int×List Int)}(h: ∀q,o=some q→q.2.2.length≤300):(o.getD (0,0,[])).2.2.length≤1000000:=by
 cases o with
 |none=>simp
 |some q=>have:=h q rfl;simp only[Option.getD_some];omega
theorem glc_cp:glcErr n l es lab (cp xs)=glcErr n l es lab xs:=by unfold glcErr;rw[cErr_cp]
theorem choices_ok(hO:HasOpen M)(hM:HasBC M)(h10:y10 M=some (.val (.c (.bool true)))){n:Int}:y3 M n (uIs b1 l) (uEs b2 es) (uIs b4 lab) (uLs b3 xs)=some (.val (.c (.bool true))):=by
 rw[y3_eq]
 simp only[h10,oS,toU_val,asB_c,Bool.not_true,bF,if_false,y11_is,y12_is,len_uIs]
 have e1:decide ((62:Int)<(lab.length:Int))=decide (62<lab.length):=by rw[decide_eq_decide];omega
 rw[e1]
 by_cases hf:few n l es=true
 rotate_left
 ·simp only[Bool.not_eq_true]at hf
  simp[hf]
 by_cases hb:brief xs=true
 rotate_left
 ·simp only[Bool.not_eq_true]at hb
  simp[hf,hb]
 by_cases h2:62<lab.length
 ·simp[hf,hb,h2]
 have hf':=hf
 have hb':=hb
 simp only[few,bA,decide_eq_true_eq]at hf'
 simp only[brief,bA,decide_eq_true_eq,List.all_eq_true]at hb'
 obtain⟨⟨_,k1⟩,k2⟩:=hf'
 have hx: ∀x∈xs,x.2.length≤1000000:=fun x h=>by have:=hb'.2 x h;omega
 have hx': ∀x∈cp xs,x.2.length≤1000000:=fun x h=>by
  obtain⟨y,hy,rfl⟩:=List.mem_map.1 h
  exact hx y hy
 have g1':=y14_is (M:=M) (n:=n) (b1:=b1) (b2:=b2) (l:=l) (es:=es) (by omega) (by omega)
 have g2:=y15_is (M:=M) (b:=b4) (l:=lab) (by omega)
 obtain⟨s16,g3,g4⟩:=y16_is (M:=M) (b3:=b3) (xs:=xs) (by omega) hx
 have hfz:Sx.fz (⟨true,1,lab.map uI⟩:Sx)=uIs true lab:=rfl
 have g13:=y13_is (M:=M) (n:=n) (b1:=true) (b2:=true) (b3:=s16.b) (l:=l) (es:=es) (lab:=lab) (xs:=cp xs) hO hM (by omega) (by omega) (by omega) hx'
 have g17:=y17_is (M:=M) (n:=n) (b1:=b1) (b2:=b2) (l:=l) (es:=es) (by omega) (by omega)
 have g18:=y18_is (M:=M) (n:=n) (a1:=uIs b1 l) (a2:=uEs b2 es) (b3:=b4) (lab:=lab) (by omega)
 have g19:=y19_is (M:=M) (n:=n) (b2:=b2) (b3:=b3) (es:=es) (xs:=xs) (g1:=uIs b1 l) (by omega) (by omega) hx
 rw[glc_cp,faultAll_cp]at g13
 obtain⟨f,f0,f1,f2,f3⟩: ∃f,U.exact (.st [uI n,uIs true l,uEs true es]) ks1=some f∧f 0=uI n∧f 1=uIs true l∧f 2=uEs true es:=⟨_,rfl,rfl,rfl,rfl⟩
 obtain⟨q,q0,q1,q2,q3⟩:=exact_uF (if glcErr n l es lab xs=0 then faultAll es n.toNat xs (visB lab es)else none)
 simp only[hf,hb,h2,Bool.not_true,bF,Bool.true_eq_false,if_false,if_true,oS,decide_false,g1',toU_val,f0,f1,f2,f3,i_uI,g2,asSl_sl,hfz,g3,g4,g13,asTup_tup,List.getElem?_cons_zero,List.getElem?_cons_succ,q0,q1,q2,q3,asI_uI,g17]
 have step: ∀F0 F1 F2 E,(if decide (gErr n l es=0)=true then(y18 M n (uIs b1 l) (uEs b2 es) (uIs b4 lab)).bind fun r29=>(Rz.toU r29).bind fun u30=>(U.asI .i64 u30).bind fun n31=>y3_1 M (uIs b4 lab) (uLs b3 xs) n (uIs b1 l) (uEs b2 es) F0 F1 F2 E n31
   else y3_1 M (uIs b4 lab) (uLs b3 xs) n (uIs b1 l) (uEs b2 es) F0 F1 F2 E (gErr n l es))=y3_2 M (uIs b4 lab) (uLs b3 xs) n (uIs b1 l) (uEs b2 es) F0 F1 F2 E (glcErr n l es lab xs):=by
  intro F0 F1 F2 E
  unfold glcErr
  by_cases a1:gErr n l es=0
  ·simp only[a1,decide_true,if_true,g18,oS,toU_val,asI_uI]
   rw[y3_1_eq]
   by_cases a2:lErr n lab=0
   ·simp only[a2,decide_true,if_true,g19,oS,toU_val,asI_uI]
   ·simp only[a2,decide_false,bF,if_false]
  ·simp only[a1,decide_false,bF,if_false]
   rw[y3_1_eq]
   simp only[a1,decide_false,bF,if_false]
 rw[step,y3_2_eq]
 by_cases h0:glcErr n l es lab xs=0
 rotate_left
 ·have hr:rowU (([]:List Int))=uIs false []:=rfl
  have hz:Sx.fz (⟨false,0,[]⟩:Sx)=uIs false []:=rfl
  simp only[h0,decide_false,Bool.not_false,if_true,if_false,decide_true,Option.getD_none,hr,hz,y20_same (M:=M) (show([]:List Int).length≤1000000 by simp),oS,toU_val,asB_c]
 have h3:=h0
 unfold glcErr at h3
 split at h3
 rotate_left
 ·rename_i h4;exact absurd h3 h4
 rename_i hg
 split at h3
 rotate_left
 ·rename_i h4;exact absurd h3 h4
 rename_i hle
 obtain⟨N,rfl,hN,he4,_,hok,hed⟩:=gErr_nat hg
 obtain⟨c1,c2⟩:=cErr_ok h3
 have hlab:=lErr_len hle
 have hsort:=(sorted_of hed).2
 obtain⟨bb,g21⟩:=y21_is (M:=M) (g1:=uIs b1 l) (b1:=b4) (b2:=b2) (b3:=b3) hN he4 hok hsort c1 hx c2 (show lab.length=N by omega)
 obtain⟨p,p0,p1,p2,p3⟩:=exact_uFb bb (faultAll es N xs (visB lab es))
 simp only[h0,decide_true,Bool.not_true,bF,if_false,if_true,iN,g21,oS,asTup_tup,List.getElem?_cons_zero,List.getElem?_cons_succ,p0,p1,p2,p3,i_uI,asB_c]
 have hlen:=getD_len3 (o:=faultAll es N xs (visB lab es)) fun q hq=>faultAll_len hsort hok hq
 rcases Option.eq_none_or_eq_some (faultAll es N xs (visB lab es))with hfa |⟨w,hfa⟩
 rotate_left
 ·rw[hfa]at hlen
  have hr:rowU ((some w).getD (0,0,[])).2.2=uIs (!((some w).getD (0,0,[])).2.2.isEmpty) ((some w).getD (0,0,[])).2.2:=rfl
  simp only[hfa,Option.isSome_some,if_true,decide_true,hr,y20_same hlen,oS,toU_val,asB_c]
 ·have hr:rowU (([]:List Int))=uIs false []:=rfl
  have hz:Sx.fz (⟨false,0,[]⟩:Sx)=uIs false []:=rfl
  obtain⟨o,o1,o2⟩:=y22_1_is (M:=M) (b2:=b2) (g1:=uIs b1 l) he4 hN N 0 ⟨false,0,[]⟩ (by omega) .nil
  have o1':y22 M (N:Int) (uIs b1 l) (uEs b2 es)=some (.sl o):=by rw[y22_eq];exact o1
  obtain⟨bs,t1,t2⟩:=o2.fz
  have hbl:bs.length=N:=by have:=congrArg List.length t2;simpa using this
  have hat: ∀k,k<N→atC bs k=enabled es (k:Int):=fun k hk=>by
   have h5:=congrArg (fun r:List (List Int)=>r[k]?) t2
   simp only[List.getElem?_map,List.getElem?_range hk,Option.map_some]at h5
   obtain⟨x,h6,h7⟩:=oM.1 h5
   unfold atC
   rw[lG,h6]
   exact h7
  have hbx: ∀x∈bs,x.2.length≤1000000:=fun x hx=>by
   have:x.2∈(List.range N).map fun k:Nat=>enabled es (k:Int):=by rw[←t2];exact List.mem_map_of_mem hx
   obtain⟨k,_,hk⟩:=List.mem_map.1 this
   have:=enabled_len (es:=es) (k:Int)
   rw[hk]at this
   omega
  have hcw:cErr (N:Int) es bs=0:=by
   unfold cErr
   rw[hbl,if_pos rfl]
   exact form_whole hat N 0 (by omega)
  have hgw:glcErr (N:Int) l es lab bs=0:=by unfold glcErr;rw[if_pos hg,if_pos hle,hcw]
  have g13w:=y13_is (M:=M) (n:=(N:Int)) (b1:=true) (b2:=true) (b3:=o.b) (l:=l) (es:=es) (lab:=lab) (xs:=bs) hO hM (by omega) (by omega) (by omega) hbx
  rw[if_pos hgw,if_pos hgw,iN,fault_whole hat]at g13w
  obtain⟨w,w0,w1,w2,w3⟩:=exact_uF none
  simp only[hfa,Option.isSome_none,bF,if_false,decide_true,Bool.not_true,hr,hz,Option.getD_none,y20_same (M:=M) (show([]:List Int).length≤1000000 by simp),oS,toU_val,asB_c,g1',f0,f1,f2,f3,i_uI,g2,asSl_sl,hfz,o1',t1,g13w,asTup_tup,List.getElem?_cons_zero,List.getElem?_cons_succ,w0,w1,w2,w3,asI_uI,if_true]
end
noncomputable def M3:YM:=⟨yExt3⟩
theorem M3_open:HasOpen M3:=fun us=>by
 show yExt3 61 us=openY us
 exact(show yExt3 61 us=yExt2 61 us from rfl).trans (show yExt2 61 us=openY us from if_pos rfl)
theorem M3_bc:HasBC M3:=⟨fun us=>show yExt3 81 us=pickY BefP us from rfl,fun us=>show yExt3 54 us=pickY CirP us from rfl⟩
theorem y10_true3:y10 M3=some (.val (.c (.bool true))):=by
 unfold y10 yrunM
 rw[yrun_eq]
 kernel_rfl
theorem ylaw3{f:FuncId}(hf:md f=[.sc]){us:List U}{vs:List V}{H:Heap}
  (h:Vm.yrun yExt3 yprog md f 0 (us.map .val) []=some (.val (.c (.bool true)))) (hv:UVs H (fun i=>i<H.next) us vs): ∃H',Vm.run (awExt 10) (progOf 10 prog true) H.next f 0 (vs.map .val) H=some (.c (.bool true),H'):=by
 obtain⟨v,H',F',h1, -, -, -, -, -,h2⟩:=yrun_sound (vext:=awExt 10) (yext:=yExt3) (prog:=progOf 10 prog true) (lim:=H.next) yprog_le (yExt3_ok _) f us _ h H (fun i=>i<H.next) vs (nR _) (fun _ h=>h) hv
 rw[hf]at h2
 obtain⟨_,h3⟩:=h2
 exact⟨H',by rw[←h3.c_eq];exact h1⟩
theorem choices_all(us:List U)(h:TyPs [.struct [.int .i64, .sl [.int .i64], .sl [.int .i64, .int .i64, .int .i64]], .one (.sl [.int .i64]), .one (.sl [.sl [.int .i64]])] us):
  Vm.yrun yExt3 yprog md 3 0 (us.map .val) []=some (.val (.c (.bool true))):=by
 obtain⟨u1,_,rfl,h1,u2,_,rfl,h2,u3,_,rfl,h3,rfl⟩:=h
 obtain⟨n,b1,l,b2,es,rfl⟩:=ty_graph h1
 obtain⟨b4,lab,rfl⟩:=ty_ints h2
 obtain⟨b3,xs,rfl⟩:=ty_lists h3
 exact choices_ok (M:=M3) M3_open M3_bc y10_true3
end Go.Proofs.Ythjjbkiejkhjfaa.R
