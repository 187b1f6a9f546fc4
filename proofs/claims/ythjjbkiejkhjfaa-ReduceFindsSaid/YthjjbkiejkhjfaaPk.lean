/- - -/
import Derived.Test.YthjjbkiejkhjfaaPj
set_option linter.all false
namespace Go.Proofs.Ythjjbkiejkhjfaa.R
open Go Go.Proofs.Ythjjbkiejkhjfaa.Vm
section
variable{M:YM}{N:Nat}{n:Int}{b1 b2 b3 b4:Bool}{l lab:List Int}{es:List E3}{u1 g1:U}{v:Nat->Bool}
theorem J1K(hN:N<=60)(he:es.length<=2000)(hok: ∀e∈es,eOK (N:Int) e=true){fs:List (List Int)}(hfl:fs.length=N){s:Nat}(hs:s<N)(hfs:fs[s]? =some (pick es N v s)){fre shown l:Sx}(hfree:SxL fre (rows es N 12))(hsh:shown.es=(picks v 12 0).map uI)(hl:SxI l (enabled es (s:Int))):
  ∀(d i:Nat),i+d=(enabled es (s:Int)).length->y7_3 M (N:Int) g1 (uEs b2 es) (uLs true (xsU fs)) (s:Int) (i:Int) fre shown l=y7_2 M (N:Int) g1 (uEs b2 es) (uLs true (xsU fs)) ((s+1:Nat):Int) fre shown:=by
 have hel:=j0v (es:=es) (s:Int)
 have hpl:=j0K v 12 0
 have hfz:shown.fz=uIs shown.b (picks v 12 0):=by unfold Sx.fz uIs;rw[hsh]
 obtain⟨bs,f1,f2⟩:=hfree.es
 intro d
 induction d with
 |zero=>
  intro i hi
  rw[k1m]
  simp only[hl.len,show¬((i:Int)<(((enabled es (s:Int)).length:Nat):Int)) by omega,dF,bF,iF,q0a (show s<=1000000000 by omega)]
 |succ d ih=>
  intro i hi
  have hlt:i<(enabled es (s:Int)).length:=by omega
  obtain⟨l1,l2⟩:=hl.get hlt
  have hmem:=lM hlt
  obtain⟨a0,a1⟩:=X0l hmem
  obtain⟨a,ha⟩:=iZ a0
  have ha12:a<12:=by omega
  obtain⟨br,hr⟩:=j1E f2 ha12
  have hfb:fre.b=true:=by
   cases hb:fre.b with
   |true=>rfl
   |false=>have:=hfree.b hb;simp[rows]at this
  have hflen:fre.es.length=12:=by rw[f1];have:=congrArg List.length f2;simpa[rows]using this
  have hhas:Sx.has fre 1 (a:Int)=true:=by
   unfold Sx.has
   rw[hfree.z hfb,hflen]
   simp;omega
  have hget:(fre.es)[((a:Int)).toNat]? =some (uIs br (free es N a)):=by
   rw[iN,f1,List.getElem?_map,hr];rfl
  have hfl2:=W0K es N a
  have h43:=K1J (M:=M) (g1:=g1) (b2:=b2) (bf:=br) (fr:=free es N a) (a:=(a:Int)) (n:=(N:Int)) he (by omega)
  have hvis:decide ((a:Int)∈picks v 12 0)=v a:=by
   rw[Bool.eq_iff_iff,dE,mem_picks]
   constructor
   ·rintro⟨j,_,_,h3,h4⟩
    have:j=a:=by omega
    subst this;exact h4
   ·intro h
    exact⟨a,by omega,by omega,rfl,h⟩
  have hidx:U.idx 1 (uLs true (xsU fs)) (s:Int)=some (uIs (!(pick es N v s).isEmpty) (pick es N v s)):=by
   have:(xsU fs)[s]? =some (!(pick es N v s).isEmpty,pick es N v s):=by simp[xsU,hfs]
   exact z0U this
  have ih':=ih (i+1) (by omega)
  rw[k1m]
  simp only[hl.len,show((i:Int)<(((enabled es (s:Int)).length:Nat):Int)) by omega,dY,iT,l1,l2,oS,cell_c,asI_c,hfz,z0N (M:=M) (show(picks v 12 0).length<=1000000 by omega),toU_val,asB_c,q0a (show i<=1000000000 by omega),ih']
  rw[ha]
  simp only[hvis,hhas,iT,hget,oS,cell_uIs,h43,toU_val,asB_c,hidx,len_uIs]
  cases hv:v a with
  |true=>simp
  |false=>
   cases hall:es.all fun e=>decide (e.a=(a:Int))||decide (e.a∈free es N a)with
   |false=>simp
   |true=>
    have hf: ∀e∈es,e.a≠(a:Int)->DD es N a e.a.toNat=false:=fun e hee hne=>by
     have:=List.all_eq_true.1 hall e hee
     simp only[Bool.or_eq_true,dE]at this
     have hm:=this.resolve_left hne
     obtain⟨⟨_,_,g3,g4⟩,_⟩:=q0w (hok e hee)
     obtain⟨m,hm2⟩:=iZ g3
     have h5:=W0L (es:=es) (N:=N) (a:=a) (b:=m) (by omega)
     rw[<-hm2]at h5
     simp only[hm,dY]at h5
     rw[hm2,iN]
     cases hd:DD es N a m with
     |false=>rfl
     |true=>rw[hd]at h5;cases h5
    obtain⟨b,hb⟩:=j1u (v:=v) hN hok hs (a:=a) (by rw[<-ha];exact hmem) hv hf
    rw[hb]
    simp
theorem J1L(hN:N<=60)(he:es.length<=2000)(hok: ∀e∈es,eOK (N:Int) e=true){fs:List (List Int)}(hfl:fs.length=N)(hfs: ∀k,k<N->fs[k]? =some (pick es N v k)){fre shown:Sx}(hfree:SxL fre (rows es N 12))(hsh:shown.es=(picks v 12 0).map uI):
  ∀(d s:Nat),s+d=N->y7_2 M (N:Int) g1 (uEs b2 es) (uLs true (xsU fs)) (s:Int) fre shown=some (.val (.c (.bool true))):=by
 intro d
 induction d with
 |zero=>
  intro s hs
  rw[k1l]
  simp only[show¬((s:Int)<(N:Int)) by omega,dF,bF,iF]
 |succ d ih=>
  intro s hs
  obtain⟨e,e1,e2⟩:=W0e (M:=M) (b2:=b2) he (g0:=(N:Int)) (x:=(s:Int)) (g1:=g1)
  have h3:=J1K (M:=M) (b2:=b2) (g1:=g1) hN he hok hfl (show s<N by omega) (hfs s (by omega)) hfree hsh e2 _ 0 (Nat.zero_add _)
  rw[show((0:Nat):Int)=0 from rfl]at h3
  rw[k1l]
  simp only[show((s:Int)<(N:Int)) by omega,dY,iT,e1,asSl_sl,oS,h3,ih (s+1) (by omega)]
theorem w1o(hM:HasCho M)(h10:y10 M=some (.val (.c (.bool true)))){n:Int}:y7 M n (uIs b1 l) (uEs b2 es) (uIs b4 lab)=some (.val (.c (.bool true))):=by
 rw[X1o]
 simp only[h10,oS,toU_val,asB_c,Bool.not_true,bF,iF,Z1N,len_uIs]
 have e1:decide ((62:Int)<(lab.length:Int))=decide (62<lab.length):=by rw[decide_eq_decide];omega
 rw[e1]
 by_cases hf:few n l es=true
 rotate_left
 ·simp only[Bool.not_eq_true]at hf
  simp[hf]
 by_cases h2:62<lab.length
 ·simp[hf,h2]
 have hf':=hf
 simp only[few,bA,dE]at hf'
 obtain⟨⟨_,k1⟩,k2⟩:=hf'
 have g1':=K1i (M:=M) (n:=n) (b1:=b1) (b2:=b2) (l:=l) (es:=es) (by omega) (by omega)
 have g2:=W0v (M:=M) (b:=b4) (l:=lab) (by omega)
 have hfz:Sx.fz (⟨true,1,lab.map uI⟩:Sx)=uIs true lab:=rfl
 have g40:=K1H (M:=M) (n:=n) (b1:=true) (b2:=true) (l:=l) (es:=es) (lab:=lab) hM (by omega) (by omega) (by omega)
 have g17:=Z1J (M:=M) (n:=n) (b1:=b1) (b2:=b2) (l:=l) (es:=es) (by omega) (by omega)
 have g18:=Z1L (M:=M) (n:=n) (a1:=uIs b1 l) (a2:=uEs b2 es) (b3:=b4) (lab:=lab) (by omega)
 obtain⟨f,f0,f1,f2,f3⟩: ∃f,U.exact (.st [uI n,uIs true l,uEs true es]) ks1=some f/\f 0=uI n/\f 1=uIs true l/\f 2=uEs true es:=⟨_,rfl,rfl,rfl,rfl⟩
 have ho:U.one (if glErr n l es lab=0 then uLs true (xsU (found es n.toNat (visB lab es)))else .sl false [])=some (if glErr n l es lab=0 then uLs true (xsU (found es n.toNat (visB lab es)))else .sl false []):=by split<;>rfl
 simp only[hf,h2,Bool.not_true,bF,Bool.true_eq_false,iF,iT,oS,dF,g1',toU_val,f0,f1,f2,f3,i_uI,g2,asSl_sl,hfz,g40,choR,asTup_tup,List.getElem?_cons_zero,List.getElem?_cons_succ,ho,asI_uI,g17]
 have step: ∀c E,(if decide (gErr n l es=0)=true then(y18 M n (uIs b1 l) (uEs b2 es) (uIs b4 lab)).bind fun r23=>(Rz.toU r23).bind fun u24=>(U.asI .i64 u24).bind fun n25=>y7_1 M (uIs b4 lab) n (uIs b1 l) (uEs b2 es) c E n25
   else y7_1 M (uIs b4 lab) n (uIs b1 l) (uEs b2 es) c E (gErr n l es))=y7_1 M (uIs b4 lab) n (uIs b1 l) (uEs b2 es) c E (glErr n l es lab):=by
  intro c E
  unfold glErr
  by_cases a1:gErr n l es=0
  ·simp only[a1,dY,iT,g18,oS,toU_val,asI_uI]
  ·simp only[a1,dF,bF,iF]
 rw[step,Z1u]
 by_cases h0:glErr n l es lab=0
 rotate_left
 ·have hnil:U.len (.sl false [])=some 0:=rfl
  simp only[h0,dF,Bool.not_false,iT,iF,dY,hnil,oS]
  rfl
 have h3:=h0
 unfold glErr at h3
 split at h3
 rotate_left
 ·rename_i h4;exact absurd h3 h4
 rename_i hg
 obtain⟨N,rfl,hN,he4,_,hok,hed⟩:=W0w hg
 have hlab:=W0P h3
 obtain⟨q1,q2,q3⟩:=J0o (v:=visB lab es) hN hok
 have hfx: ∀x∈xsU (found es N (visB lab es)),x.2.length<=1000000:=by
  refine Q0k fun r hr=> ?_
  obtain⟨k,hk⟩:=List.getElem?_of_mem hr
  have hkN:k<N:=by have:=(gE.1 hk).1;omega
  have hat:atC (xsU (found es N (visB lab es))) k=r:=by rw[k0V,lG,hk];rfl
  have hel:=j0v (es:=es) (k:Int)
  rcases q2 k hkN with h |h
  ·rcases k0Q es N (visB lab es) k with h5 |⟨a,_,_,h5⟩
   ·rw[<-hat,h,h5];exact hel
   ·rw[<-hat,h,h5];simp
  ·rw[<-hat,h];exact hel
 have hform:=q1g (v:=visB lab es) hN hok
 have g19:=K1P (M:=M) (n:=(N:Int)) (b2:=b2) (b3:=true) (es:=es) (xs:=xsU (found es N (visB lab es))) (g1:=uIs b1 l) he4 (by rw[J0F,q1];omega) hfx
 obtain⟨c1,c2⟩:=Z1m hform
 obtain⟨bb,g21⟩:=K1V (M:=M) (g1:=uIs b1 l) (b1:=b4) (b2:=b2) (b3:=true) hN he4 hok (w0U hed).2 c1 hfx c2 (show lab.length=N by omega)
 rw[K0F hN hok]at g21
 obtain⟨p,p0,p1,p2,p3⟩:=q1K bb none
 obtain⟨bc,g41,hc⟩:=K1I (M:=M) (b2:=b2) (g1:=uIs b1 l) he4 hok hN
 obtain⟨sf,j1,j2⟩:=Q1Z (M:=M) (b2:=b2) (g1:=uIs b1 l) hN he4 hok
 obtain⟨t,t1,t2⟩:=J1d (M:=M) (b2:=b2) (b3:=b4) (g0:=(N:Int)) (g1:=uIs b1 l) (show lab.length=N by omega) he4 hok
 simp only[h0,dY,Bool.not_true,bF,iF,iT,iN,g19,hform,oS,toU_val,asI_uI,g21,asTup_tup,List.getElem?_cons_zero,List.getElem?_cons_succ,p0,asB_c,Option.isSome_none,g41,j2,t1,asSl_sl]
 cases bc with
 |true=>rfl
 |false=>
  have h7:=J1L (M:=M) (b2:=b2) (g1:=uIs b1 l) (v:=visB lab es) hN he4 hok q1 (fun k hk=>q1i hN hok (fun s hs=>hc rfl s hs) hk) j1 t2 N 0 (by omega)
  rw[show((0:Nat):Int)=0 from rfl]at h7
  simp only[bF,iF,h7]
end
theorem ylaw4{f:FuncId}(hf:md f=[.sc]){us:List U}{vs:List V}{H:Heap}
  (h:Vm.yrun yExt4 yprog md f 0 (us.map .val) []=some (.val (.c (.bool true)))) (hv:UVs H (fun i=>i<H.next) us vs): ∃H',Vm.run (awExt 10) (progOf 10 prog true) H.next f 0 (vs.map .val) H=some (.c (.bool true),H'):=by
 obtain⟨v,H',F',h1, -, -, -, -, -,h2⟩:=j0L (vext:=awExt 10) (yext:=yExt4) (prog:=progOf 10 prog true) (lim:=H.next) k0x (w1K _) f us _ h H (fun i=>i<H.next) vs (nR _) (fun _ h=>h) hv
 rw[hf]at h2
 obtain⟨_,h3⟩:=h2
 exact⟨H',by rw[<-h3.c_eq];exact h1⟩
theorem finds_all(us:List U)(h:TyPs [.struct [.int .i64, .sl [.int .i64], .sl [.int .i64, .int .i64, .int .i64]], .one (.sl [.int .i64])] us):
  Vm.yrun yExt4 yprog md 7 0 (us.map .val) []=some (.val (.c (.bool true))):=by
 obtain⟨u1,_,rfl,h1,u2,_,rfl,h2,rfl⟩:=h
 obtain⟨n,b1,l,b2,es,rfl⟩:=Q1L h1
 obtain⟨b4,lab,rfl⟩:=k1p h2
 exact w1o (M:=M4) K1G z1q
end Go.Proofs.Ythjjbkiejkhjfaa.R
