/- A part of the proof. -/
import Derived.Test.YthjjbkiejkhjfaaWf
namespace Go.Proofs.Ythjjbkiejkhjfaa.R
open Go Go.Proofs.Ythjjbkiejkhjfaa.Vm
set_option linter.unusedVariables false
set_option linter.unusedSimpArgs false
variable{M:YM}
def asc(l:List Int):Nat→Nat→Bool
 | 0,_=>true
 |d+1,k=>decide (at0 l (k - 1)<at0 l k)&&asc l d (k+1)
def ascL(l:List Int):Bool:=asc l (l.length - 1) 1
def setErr(es:List E3)(s:Nat)(l:List Int):Int:=if ascL l=true then(if(l.all fun a=>decide (a∈enabled es (s:Int)))=true then 0 else 10)else 13
def formErr(es:List E3)(xs:List (Bool×List Int)):Nat→Nat→Int
 | 0,_=>0
 |d+1,s=>if setErr es s (xs.getD s (false,[])).2=0 then formErr es xs d (s+1)else setErr es s (xs.getD s (false,[])).2
def cErr(n:Int)(es:List E3)(xs:List (Bool×List Int)):Int:=if(xs.length:Int)=n then formErr es xs xs.length 0 else 6
theorem setErr_vals(es:List E3)(s:Nat)(l:List Int):(ascL l=false→setErr es s l=13)∧(ascL l=true→(l.all fun a=>decide (a∈enabled es (s:Int)))=false→setErr es s l=10)∧(ascL l=true→(l.all fun a=>decide (a∈enabled es (s:Int)))=true→setErr es s l=0):=by
 unfold setErr
 refine⟨fun h=>by simp[h],fun h1 h2=> ?_,fun h1 h2=> ?_⟩
 ·rw[if_pos h1,if_neg (by rw[h2];simp)]
 ·rw[if_pos h1,if_pos h2]
section
variable{N:Nat}{n:Int}{b1 b2 b3:Bool}{l:List Int}{es:List E3}{xs:List (Bool×List Int)}
theorem idx_nat{b:Bool}{l:List Int}{k:Nat}(h:k<l.length):U.idx 1 (uIs b l) (k:Int)=some (uI (at0 l k)):=by
 have:=idx_at (b:=b) (x:=(k:Int)) (l:=l) (by omega) (by omega)
 rwa [iN]at this
theorem xs_get{s:Nat}(h:s<xs.length):xs.getD s (false,[])=xs[s]:=by rw[lG,get?_of_lt h];rfl
theorem at0_get{k:Nat}(h:k<l.length):at0 l k=l[k]:=by simp[at0,h]
theorem y19_3_is(hn:xs.length≤1000000)(hx: ∀x∈xs,x.2.length≤1000000){g0:Int}{g1 g2:U}{s:Nat}(hs:s<xs.length){t:Sx}{le:List Int}(ht:SxI t le)(hle:le.length≤1000000): ∀(d k:Nat),k+d=xs[s].2.length→
  y19_3 M (uLs b3 xs) g0 g1 g2 (s:Int) (k:Int) t=if((xs[s].2.drop k).all fun a=>decide (a∈le))=true then y19_1 M (uLs b3 xs) g0 g1 g2 ((s+1:Nat):Int)else some (.val (uI 10)):=by
 have hxs:=hx _ (lM hs)
 intro d
 induction d with
 |zero=>
  intro k hk
  rw[y19_3_eq,dL (by omega)]
  simp only[idx_uLs (get?_of_lt hs),oS,cell_uIs,len_uIs,show¬((k:Int)<xs[s].2.length) by omega,decide_false,bF,if_false,List.all_nil,if_true,wrap_succ (show s≤1000000000 by omega)]
 |succ d ih=>
  intro k hk
  have hlt:k<xs[s].2.length:=by omega
  rw[y19_3_eq,List.drop_eq_getElem_cons hlt]
  simp only[idx_uLs (get?_of_lt hs),oS,cell_uIs,len_uIs,show((k:Int)<xs[s].2.length) by omega,decide_true,if_true,idx_uIs (get?_of_lt hlt),cell_c,asI_c,ht.fz,y39_is hle,toU_val,asB_c,wrap_succ (show k≤1000000000 by omega),ih (k+1) (by omega),List.all_cons]
  by_cases h:xs[s].2[k]∈le<;>simp[h]
theorem y19_2_is(he:es.length≤2000)(hn:xs.length≤1000000)(hx: ∀x∈xs,x.2.length≤1000000){g0:Int}{g1:U}{s:Nat}(hs:s<xs.length): ∀(d k:Nat),k+d=xs[s].2.length∨(d=0∧xs[s].2.length≤k)→1≤k→k≤1000001→
  y19_2 M (uLs b3 xs) g0 g1 (uEs b2 es) (s:Int) (k:Int)=if asc xs[s].2 d k=true then(if(xs[s].2.all fun a=>decide (a∈enabled es (s:Int)))=true then y19_1 M (uLs b3 xs) g0 g1 (uEs b2 es) ((s+1:Nat):Int)else some (.val (uI 10)))else some (.val (uI 13)):=by
 have hxs:=hx _ (lM hs)
 intro d
 induction d with
 |zero=>
  intro k hk h1 hkb
  obtain⟨t,t1,t2⟩:=y42_is (M:=M) (b2:=b2) he (g0:=g0) (x:=(s:Int)) (g1:=g1)
  have h3:=y19_3_is (M:=M) (b3:=b3) (g0:=g0) (g1:=g1) (g2:=uEs b2 es) hn hx hs t2 (by have:=picks_len (enB es (s:Int)) 12 0;unfold enabled;omega) xs[s].2.length 0 (by omega)
  rw[List.drop_zero,show((0:Nat):Int)=0 from rfl]at h3
  rw[y19_2_eq]
  simp only[idx_uLs (get?_of_lt hs),oS,cell_uIs,len_uIs,show¬((k:Int)<xs[s].2.length) by omega,decide_false,bF,if_false,t1,asSl_sl,h3,asc,if_true]
 |succ d ih=>
  intro k hk h1 hkb
  have hlt:k<xs[s].2.length:=by omega
  have hw:IntKind.wrap .i64 ((k:Int) - 1)=((k - 1:Nat):Int):=by rw[wrap_in (by omega) (by omega)];omega
  rw[y19_2_eq]
  simp only[idx_uLs (get?_of_lt hs),oS,cell_uIs,len_uIs,show((k:Int)<xs[s].2.length) by omega,decide_true,if_true,idx_nat hlt,hw,idx_nat (b:=xs[s].1) (show k - 1<xs[s].2.length by omega),cell_c,asI_c,wrap_succ (show k≤1000000000 by omega),ih (k+1) (by omega) (by omega) (by omega),asc]
  by_cases h:at0 xs[s].2 k≤at0 xs[s].2 (k - 1)
  ·have: ¬at0 xs[s].2 (k - 1)<at0 xs[s].2 k:=by omega
   simp[h,this]
  ·have:at0 xs[s].2 (k - 1)<at0 xs[s].2 k:=by omega
   simp[h,this]
theorem y19_1_is(he:es.length≤2000)(hn:xs.length≤1000000)(hx: ∀x∈xs,x.2.length≤1000000){g0:Int}{g1:U}: ∀(d s:Nat),s+d=xs.length→y19_1 M (uLs b3 xs) g0 g1 (uEs b2 es) (s:Int)=some (.val (uI (formErr es xs d s))):=by
 intro d
 induction d with
 |zero=>
  intro s hs
  rw[y19_1_eq]
  simp only[len_uLs,oS,show¬((s:Int)<xs.length) by omega,decide_false,bF,if_false,formErr]
 |succ d ih=>
  intro s hs
  have hlt:s<xs.length:=by omega
  have hxs:=hx _ (lM hlt)
  have h2:=y19_2_is (M:=M) (b2:=b2) (b3:=b3) (g0:=g0) (g1:=g1) he hn hx hlt (xs[s].2.length - 1) 1 (by omega) (by omega) (by omega)
  rw[show((1:Nat):Int)=1 from rfl,ih (s+1) (by omega)]at h2
  obtain⟨v1,v2,v3⟩:=setErr_vals es s xs[s].2
  rw[y19_1_eq]
  simp only[len_uLs,oS,show((s:Int)<xs.length) by omega,decide_true,if_true,h2,formErr,xs_get hlt]
  have hA:asc xs[s].2 (xs[s].2.length - 1) 1=ascL xs[s].2:=rfl
  rw[hA]
  cases h3:ascL xs[s].2 with
  |false=>simp[v1 h3]
  |true=>
   cases h4:(xs[s].2.all fun a=>decide (a∈enabled es (s:Int)))with
   |false=>simp[v2 h3 h4]
   |true=>simp[v3 h3 h4]
theorem y19_is(he:es.length≤2000)(hn:xs.length≤1000000)(hx: ∀x∈xs,x.2.length≤1000000){g1:U}:y19 M n g1 (uEs b2 es) (uLs b3 xs)=some (.val (uI (cErr n es xs))):=by
 have h1:=y19_1_is (M:=M) (b2:=b2) (b3:=b3) (g0:=n) (g1:=g1) he hn hx xs.length 0 (by omega)
 rw[show((0:Nat):Int)=0 from rfl]at h1
 rw[y19_eq]
 simp only[len_uLs,oS,h1]
 unfold cErr
 by_cases h:(xs.length:Int)=n<;>simp[h]
theorem in_enabled(x a:Int)(s:Nat)(hx:x=(s:Int)):(a∈enabled es x)↔(0≤a∧a≤11∧stepsL es x a≠[]):=by
 unfold enabled
 rw[mem_picks]
 constructor
 ·rintro⟨j,h1,h2,rfl,h4⟩
  refine⟨by omega,by omega,fun h=> ?_⟩
  unfold enB at h4
  rw[h]at h4;cases h4
 ·rintro⟨h1,h2,h3⟩
  obtain⟨j,rfl⟩:=Int.eq_ofNat_of_zero_le h1
  refine⟨j,by omega,by omega,rfl, ?_⟩
  unfold enB
  cases h:stepsL es x (j:Int)with
  |nil=>exact absurd h h3
  |cons y l=>rfl
theorem y51_3_is(hok: ∀e∈es,eOK (N:Int) e=true){u1 x18:U}{x19:Int}{s:Nat}(hs:s<N)(hN:N≤60){b:Bool}(hl:l.length≤1000000): ∀(d k:Nat),k+d=l.length→
  y51_3 M (openU N u1 b2 es) (s:Int) x18 x19 (s:Int) (uIs b l) (l.length:Int) (k:Int)=if((l.drop k).all fun a=>decide (a∈enabled es (s:Int)))=true then y51_1 M (openU N u1 b2 es) x18 x19 ((s+1:Nat):Int)else some (.val (uI 10)):=by
 obtain⟨v,v0,v1,v2,v3,v4,v5⟩:=openU_fields N u1 b2 es
 intro d
 induction d with
 |zero=>
  intro k hk
  rw[y51_3_eq,dL (by omega)]
  simp only[show¬((k:Int)<l.length) by omega,decide_false,bF,if_false,List.all_nil,if_true,wrap_succ (show s≤1000000000 by omega)]
 |succ d ih=>
  intro k hk
  have hlt:k<l.length:=by omega
  have hin:=in_enabled (es:=es) (s:Int) l[k] s rfl
  rw[y51_3_eq,List.drop_eq_getElem_cons hlt]
  simp only[show((k:Int)<l.length) by omega,decide_true,if_true,idx_uIs (get?_of_lt hlt),oS,cell_c,asI_c,y69_is,toU_val,asB_c,wrap_succ (show k≤1000000000 by omega),ih (k+1) (by omega),List.all_cons]
  by_cases hb:btw l[k] 0 11=true
  ·have hb':=hb
   simp only[btw,decide_eq_true_eq]at hb'
   obtain⟨a,ha⟩:=Int.eq_ofNat_of_zero_le hb'.1
   rw[ha]at hin hb'⊢
   have ha12:a<12:=by omega
   have hq:((0:Int)≤(a:Int)∧(a:Int)<((12:Nat):Int)):=⟨by omega,by omega⟩
   rw[ha]at hb
   have hix:0+((a:Int)).toNat*1=a:=by rw[iN];omega
   simp only[hb,Bool.not_true,if_true,v0,v5,oS,idx_by hs,hq,and_self,hix,cell_by ha12,len_rowU,by_steps hok ha12]
   have hd:decide ((((stepsL es (s:Int) (a:Int)).length:Nat):Int)=0)= !decide ((a:Int)∈enabled es (s:Int)):=by
    rw[←decide_not,decide_eq_decide,hin]
    constructor
    ·intro h ⟨_,_,h3⟩
     exact h3 (List.length_eq_zero_iff.1 (by omega))
    ·intro h
     by_cases h3:stepsL es (s:Int) (a:Int)=[]
     ·rw[h3];rfl
     ·exact absurd ⟨hb'.1,hb'.2,h3⟩ h
   rw[hd]
   by_cases hm:(a:Int)∈enabled es (s:Int)<;>simp[hm]
  ·have hm: ¬l[k]∈enabled es (s:Int):=fun h=>by
    have:=hin.1 h
    exact hb (by simp only[btw,decide_eq_true_eq];omega)
   simp only[Bool.not_eq_true]at hb
   simp[hb,hm]
theorem y51_2_is(hok: ∀e∈es,eOK (N:Int) e=true){u1 x18:U}{x19:Int}{s:Nat}(hs:s<N)(hN:N≤60){b:Bool}(hl:l.length≤1000000): ∀(d k:Nat),k+d=l.length∨(d=0∧l.length≤k)→1≤k→k≤1000001→
  y51_2 M (openU N u1 b2 es) (s:Int) (uIs b l) (k:Int) x18 x19 (s:Int)=if asc l d k=true then(if(l.all fun a=>decide (a∈enabled es (s:Int)))=true then y51_1 M (openU N u1 b2 es) x18 x19 ((s+1:Nat):Int)else some (.val (uI 10)))else some (.val (uI 13)):=by
 intro d
 induction d with
 |zero=>
  intro k hk h1 hkb
  have h3:=y51_3_is (M:=M) (b2:=b2) (u1:=u1) (x18:=x18) (x19:=x19) (b:=b) hok hs hN hl l.length 0 (by omega)
  rw[List.drop_zero,show((0:Nat):Int)=0 from rfl]at h3
  rw[y51_2_eq]
  simp only[len_uIs,oS,show¬((k:Int)<l.length) by omega,decide_false,bF,if_false,h3,asc,if_true]
 |succ d ih=>
  intro k hk h1 hkb
  have hlt:k<l.length:=by omega
  have hw:IntKind.wrap .i64 ((k:Int) - 1)=((k - 1:Nat):Int):=by rw[wrap_in (by omega) (by omega)];omega
  rw[y51_2_eq]
  simp only[oS,len_uIs,show((k:Int)<l.length) by omega,decide_true,if_true,idx_nat hlt,hw,idx_nat (b:=b) (show k - 1<l.length by omega),cell_c,asI_c,wrap_succ (show k≤1000000000 by omega),ih (k+1) (by omega) (by omega) (by omega),asc]
  by_cases h:at0 l k≤at0 l (k - 1)
  ·have: ¬at0 l (k - 1)<at0 l k:=by omega
   simp[h,this]
  ·have:at0 l (k - 1)<at0 l k:=by omega
   simp[h,this]
theorem y51_1_is(hok: ∀e∈es,eOK (N:Int) e=true)(hN:N≤60)(hn:xs.length=N)(hx: ∀x∈xs,x.2.length≤1000000){u1:U}: ∀(d s:Nat),s+d=xs.length→y51_1 M (openU N u1 b2 es) (uLs b3 xs) (xs.length:Int) (s:Int)=some (.val (uI (formErr es xs d s))):=by
 intro d
 induction d with
 |zero=>
  intro s hs
  rw[y51_1_eq]
  simp only[show¬((s:Int)<xs.length) by omega,decide_false,bF,if_false,formErr]
 |succ d ih=>
  intro s hs
  have hlt:s<xs.length:=by omega
  have hxs:=hx _ (lM hlt)
  have h2:=y51_2_is (M:=M) (b2:=b2) (u1:=u1) (x18:=uLs b3 xs) (x19:=(xs.length:Int)) (b:=xs[s].1) hok (show s<N by omega) hN hxs (xs[s].2.length - 1) 1 (by omega) (by omega) (by omega)
  rw[show((1:Nat):Int)=1 from rfl,ih (s+1) (by omega)]at h2
  obtain⟨v1,v2,v3⟩:=setErr_vals es s xs[s].2
  rw[y51_1_eq]
  simp only[show((s:Int)<xs.length) by omega,decide_true,if_true,idx_uLs (get?_of_lt hlt),oS,cell_uIs,h2,formErr,xs_get hlt]
  have hA:asc xs[s].2 (xs[s].2.length - 1) 1=ascL xs[s].2:=rfl
  rw[hA]
  cases h3:ascL xs[s].2 with
  |false=>simp[v1 h3]
  |true=>
   cases h4:(xs[s].2.all fun a=>decide (a∈enabled es (s:Int)))with
   |false=>simp[v2 h3 h4]
   |true=>simp[v3 h3 h4]
theorem y51_is(hM:HasOpen M)(h0:gErr n l es=0)(hx: ∀x∈xs,x.2.length≤1000000):y51 M n (uIs b1 l) (uEs b2 es) (uLs b3 xs)=some (.val (uI (cErr n es xs))):=by
 obtain⟨N,rfl,hN,g4,hl,hok,hed⟩:=gErr_nat h0
 have ho:U.one (openU N (uIs b1 l) b2 es)=some (openU N (uIs b1 l) b2 es):=rfl
 rw[y51_eq]
 simp only[len_uLs,oS]
 unfold cErr
 by_cases h:(xs.length:Int)=(N:Int)
 ·have h1:=y51_1_is (M:=M) (b2:=b2) (b3:=b3) (u1:=uIs b1 l) hok hN (show xs.length=N by omega) hx xs.length 0 (by omega)
  rw[show((0:Nat):Int)=0 from rfl]at h1
  simp only[h,decide_true,Bool.not_true,bF,if_false,y61_is hM hN g4 hed,oS,toU_val,ho,if_true]
  rw[←h]
  exact h1
 ·simp[h]
structure SxE (s:Sx) (l:List E3):Prop where
 es:s.es=l.map uE
 b:s.b=false→s.es=[]
 z:s.b=true→s.sz=3
theorem SxE.nil:SxE ⟨false,0,[]⟩ []:=⟨rfl,fun _=>rfl,fun h=>by cases h⟩
theorem SxE.fz{s:Sx}{l:List E3}(h:SxE s l):s.fz=uEs s.b l:=by unfold Sx.fz uEs;rw[h.es]
theorem SxE.app{s:Sx}{l:List E3}(h:SxE s l)(e:E3)(hn:l.length≤1000000): ∃s',Sx.app s 3 [.st [.c (.int .i64 e.f), .c (.int .i64 e.t), .c (.int .i64 e.a)]]=some s'∧SxE s' (l++[e]):=by
 refine⟨⟨true,3,s.es++[uE e]⟩,app_one rfl ?_ (by rw[h.es];simpa using hn),by rw[h.es];simp,fun h=>(by cases h),fun _=>rfl⟩
 cases hb:s.b with
 |false=>exact .inl rfl
 |true=>exact .inr (h.z hb)
theorem getD_len(hx: ∀x∈xs,x.2.length≤1000000)(k:Nat):(xs.getD k (false,[])).2.length≤1000000:=by
 rw[lG]
 cases h:xs[k]? with
 |none=>simp
 |some x=>exact hx x (List.mem_of_getElem? h)
theorem cp_len(xs:List (Bool×List Int)):(cp xs).length=xs.length:=by simp[cp]
theorem getD_cp(k:Nat):((cp xs).getD k (false,[])).2=(xs.getD k (false,[])).2:=by
 unfold cp
 rw[lG,lG,List.getElem?_map]
 cases xs[k]? <;>rfl
theorem formErr_cp: ∀d k,formErr es (cp xs) d k=formErr es xs d k
 | 0,_=>rfl
 |d+1,k=>by simp only[formErr,getD_cp,formErr_cp d]
theorem cErr_cp:cErr n es (cp xs)=cErr n es xs:=by
 unfold cErr
 rw[cp_len,formErr_cp]
end
end Go.Proofs.Ythjjbkiejkhjfaa.R
