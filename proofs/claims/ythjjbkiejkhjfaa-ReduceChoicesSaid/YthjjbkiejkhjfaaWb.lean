/- A part of the proof. -/
import Derived.Test.YthjjbkiejkhjfaaWa
namespace Go.Proofs.Ythjjbkiejkhjfaa.R
open Go Go.Proofs.Ythjjbkiejkhjfaa.Vm
set_option linter.unusedVariables false
set_option linter.unusedSimpArgs false
variable{M:YM}
def prev{α:Type}(l:List α)(k:Nat):Option α:=if k=0 then none else l[k - 1]?
theorem prev_succ{α:Type}{l:List α}{k:Nat}(h:k<l.length):prev l (k+1)=some l[k]:=by unfold prev;simp[h]
theorem prev_pos{α:Type}{l:List α}{k:Nat}(h:k<l.length)(h0: ¬k=0):prev l k=some l[k - 1]:=by unfold prev;rw[if_neg h0];exact get?_of_lt (by omega)
def ascOK(n:Int):Option Int→List Int→Bool
 |_,[]=>true
 |p,x::l=>btw x 0 (n - 1)&& !(p.any fun y=>decide (x≤y))&&ascOK n (some x) l
def eOK(n:Int)(e:E3):Bool:=btw e.f 0 (n - 1)&&btw e.t 0 (n - 1)&&btw e.a 0 11
def edgesOK(n:Int):Option E3→List E3→Bool
 |_,[]=>true
 |p,e::l=>eOK n e&& !(p.any fun q=>decide (0≤cmp3 q e))&&edgesOK n (some e) l
def gForm(n:Int)(l:List Int)(es:List E3):Bool:=btw n 0 400&&decide (es.length≤2000)&&ascOK n none l&&edgesOK n none es
def gErr(n:Int)(l:List Int)(es:List E3):Int:=if gForm n l es=true then(if n≤60 then 0 else 2)else 5
theorem wrap_sub1{a:Int}(h:btw a 0 400=true):IntKind.wrap .i64 (a - 1)=a - 1:=by
 simp only[btw,decide_eq_true_eq]at h
 exact wrap_in (by omega) (by omega)
theorem wrap_k1{k:Nat}(h0: ¬k=0)(hk:k≤1000000000):IntKind.wrap .i64 ((k:Int) - 1)=((k - 1:Nat):Int):=by rw[wrap_in (by omega) (by omega)];omega
theorem ascOK_len{n:Int}: ∀{l:List Int} {p:Option Int},ascOK n p l=true→ ∀q:Int,0≤q→(∀y,p=some y→q=y+1)→(p=none→q=0)→q≤n→q+l.length≤n
 | [],p,_,q,_,_,_,h=>by simpa using h
 |x::l,p,h,q,hq,h1,h2,h3=>by
  simp only[ascOK,bA,btw,decide_eq_true_eq]at h
  have hx:q≤x:=by
   cases p with
   |none=>rw[h2 rfl];exact h.1.1.1
   |some y=>
    have:=h.1.2
    simp only[Option.any_some,Bool.not_eq_true',decide_eq_false_iff_not]at this
    rw[h1 y rfl];omega
  have:=ascOK_len h.2 (x+1) (by omega) (fun y hy=>by cases hy;rfl) (fun h=>by cases h) (by omega)
  rw[List.length_cons]
  omega
section
variable{n:Int}{b1 b2 b3:Bool}{l lab:List Int}{es:List E3}
theorem y55_2_is(hg:btw n 0 400=true)(he:es.length≤1000000){a1:U}: ∀(d k:Nat),k+d=es.length→y55_2 M n a1 (uEs b2 es) (k:Int)=some (.val (.c (.bool (edgesOK n (prev es k) (es.drop k))))):=by
 intro d
 induction d with
 |zero=>
  intro k hk
  rw[y55_2_eq,dL (by omega)]
  simp only[len_uEs,oS,show¬((k:Int)<es.length) by omega,decide_false,bF,if_false,edgesOK]
 |succ d ih=>
  intro k hk
  have hlt:k<es.length:=by omega
  have ih':=ih (k+1) (by omega)
  rw[prev_succ hlt]at ih'
  obtain⟨f,f0,f1,f2,f3⟩:=struct_uE es[k]
  rw[y55_2_eq,List.drop_eq_getElem_cons hlt]
  have hq:(if(decide ((0:Int)<(k:Int)))=true then
    (U.idx 3 (uEs b2 es) (IntKind.wrap .i64 ((k:Int) - 1))).bind fun v15=>
    (U.struct v15 0 ks2).bind fun f16=>
    (y89 M ((f16 0).i) ((f16 1).i) ((f16 2).i)).bind fun r17=>
    (Rz.asSl r17).bind fun s18=>
    (y89 M es[k].f es[k].t es[k].a).bind fun r19=>
    (Rz.asSl r19).bind fun s20=>
    (y88 M (Sx.fz s18) (Sx.fz s20)).bind fun r21=>
    (Rz.toU r21).bind fun u22=>
    (U.asI .i64 u22).bind fun n23=>some (decide (0≤n23))
    else some (decide ((0:Int)<(k:Int))))=some ((prev es k).any fun q=>decide (0≤cmp3 q es[k])):=by
   by_cases h0:k=0
   ·subst h0;simp[prev]
   ·obtain⟨g,g0,g1,g2,g3⟩:=struct_uE es[k - 1]
    have h88:=fun(x y:E3)=>y88_is (M:=M) (b1:=true) (b2:=true) x y
    simp only[uIs]at h88
    have hfz: ∀x:E3,Sx.fz (⟨true,1,[x.f,x.t,x.a].map uI⟩:Sx)=U.sl true ([x.f,x.t,x.a].map uI):=fun _=>rfl
    simp only[show((0:Int)<k) by omega,decide_true,if_true,wrap_k1 h0 (by omega),idx_uEs (b:=b2) (get?_of_lt (show k - 1<es.length by omega)),oS,g0,g1,g2,g3,i_uI,y89_is,asSl_sl,hfz,h88,toU_val,asI_c,prev_pos hlt h0,Option.any_some]
  simp only[len_uEs,oS,show((k:Int)<es.length) by omega,decide_true,if_true,idx_uEs (get?_of_lt hlt),f0,f1,f2,f3,i_uI,wrap_sub1 hg,y37_is,toU_val,asB_c,wrap_succ (show k≤1000000000 by omega),ih']
  rw[hq]
  simp only[edgesOK,eOK]
  cases btw es[k].f 0 (n - 1)<;>cases btw es[k].t 0 (n - 1)<;>cases btw es[k].a 0 11<;>cases((prev es k).any fun q=>decide (0≤cmp3 q es[k]))<;>simp
theorem y55_1_is(hg:btw n 0 400=true)(hl:l.length≤1000000)(he:es.length≤1000000): ∀(d k:Nat),k+d=l.length→y55_1 M n (uIs b1 l) (uEs b2 es) (k:Int)=some (.val (.c (.bool (ascOK n (prev l k) (l.drop k)&&edgesOK n none es)))):=by
 intro d
 induction d with
 |zero=>
  intro k hk
  have:=y55_2_is (M:=M) (b2:=b2) (a1:=uIs b1 l) hg he es.length 0 (by omega)
  rw[List.drop_zero,show((0:Nat):Int)=0 from rfl,show prev es 0=none from rfl]at this
  rw[y55_1_eq,dL (by omega)]
  simp only[len_uIs,oS,show¬((k:Int)<l.length) by omega,decide_false,bF,if_false,ascOK,this,Bool.true_and]
 |succ d ih=>
  intro k hk
  have hlt:k<l.length:=by omega
  have ih':=ih (k+1) (by omega)
  rw[prev_succ hlt]at ih'
  rw[y55_1_eq,List.drop_eq_getElem_cons hlt]
  have hq:(if(decide ((0:Int)<(k:Int)))=true then
    (U.idx 1 (uIs b1 l) (k:Int)).bind fun v8=>
    (U.idx 1 (uIs b1 l) (IntKind.wrap .i64 ((k:Int) - 1))).bind fun v9=>
    (U.cell v8 0).bind fun c10=>
    (U.asI .i64 c10).bind fun n11=>
    (U.cell v9 0).bind fun c12=>
    (U.asI .i64 c12).bind fun n13=>some (decide (n11≤n13))
    else some (decide ((0:Int)<(k:Int))))=some ((prev l k).any fun y=>decide (l[k]≤y)):=by
   by_cases h0:k=0
   ·subst h0;simp[prev]
   ·simp only[show((0:Int)<k) by omega,decide_true,if_true,wrap_k1 h0 (by omega),idx_uIs (b:=b1) (get?_of_lt (show k - 1<l.length by omega)),idx_uIs (b:=b1) (get?_of_lt hlt),oS,cell_c,asI_c,prev_pos hlt h0,Option.any_some]
  rw[hq]
  simp only[len_uIs,oS,show((k:Int)<l.length) by omega,decide_true,if_true,idx_uIs (get?_of_lt hlt),cell_c,asI_c,wrap_sub1 hg,y37_is,toU_val,asB_c,wrap_succ (show k≤1000000000 by omega),ih',ascOK]
  cases btw l[k] 0 (n - 1)<;>cases((prev l k).any fun y=>decide (l[k]≤y))<;>simp
theorem y55_is(hl:l.length≤1000000)(he:es.length≤1000000):y55 M n (uIs b1 l) (uEs b2 es)=some (.val (.c (.bool (gForm n l es)))):=by
 rw[y55_eq]
 simp only[y37_is,oS,toU_val,asB_c,len_uIs,len_uEs]
 unfold gForm
 by_cases hg:btw n 0 400=true
 ·have h1:=y55_1_is (M:=M) (b1:=b1) (b2:=b2) hg hl he l.length 0 (by omega)
  rw[List.drop_zero,show((0:Nat):Int)=0 from rfl,show prev l 0=none from rfl]at h1
  have e2:decide ((2000:Int)<(es.length:Int))= !decide (es.length≤2000):=by rw[←decide_not,decide_eq_decide];omega
  rw[e2,h1,hg]
  by_cases hln:n<(l.length:Int)
  ·have:ascOK n none l=false:=by
    cases h:ascOK n none l with
    |false=>rfl
    |true=>
     simp only[btw,decide_eq_true_eq]at hg
     have:=ascOK_len h 0 (by omega) (fun y hy=>by cases hy) (fun _=>rfl) hg.1
     omega
   rw[this]
   simp[hln]
  ·cases decide (es.length≤2000)<;>simp[hln]
 ·simp only[Bool.not_eq_true]at hg
  simp[hg]
theorem y17_is(hl:l.length≤1000000)(he:es.length≤1000000):y17 M n (uIs b1 l) (uEs b2 es)=some (.val (uI (gErr n l es))):=by
 rw[y17_eq]
 simp only[y55_is hl he,oS,toU_val,asB_c]
 unfold gErr
 cases gForm n l es with
 |false=>rfl
 |true=>
  by_cases h:n≤60
  ·simp[h,show¬(60<n) by omega]
  ·simp[h,show 60<n by omega]
theorem y48_2_is(hg:btw n 0 400=true)(he:es.length≤1000000){a1:U}: ∀(d k:Nat),k+d=es.length→y48_2 M n a1 (uEs b2 es) (uEs b2 es) (es.length:Int) (k:Int)=some (.val (uI (if edgesOK n (prev es k) (es.drop k)=true then(if n≤60 then 0 else 2)else 5))):=by
 intro d
 induction d with
 |zero=>
  intro k hk
  rw[y48_2_eq,dL (by omega)]
  simp only[oS,show¬((k:Int)<es.length) by omega,decide_false,bF,if_false,edgesOK,y68_is,toU_val,asI_c,if_true,decide_eq_true_eq]
 |succ d ih=>
  intro k hk
  have hlt:k<es.length:=by omega
  have ih':=ih (k+1) (by omega)
  rw[prev_succ hlt]at ih'
  obtain⟨f,f0,f1,f2,f3⟩:=struct_uE es[k]
  rw[y48_2_eq,List.drop_eq_getElem_cons hlt]
  have hq:(if(decide ((0:Int)<(k:Int)))=true then
    (U.idx 3 (uEs b2 es) (IntKind.wrap .i64 ((k:Int) - 1))).bind fun v14=>
    (U.struct v14 0 ks2).bind fun f15=>
    (y78 M ((f15 0).i) ((f15 1).i) ((f15 2).i) es[k].f es[k].t es[k].a).bind fun r16=>
    (Rz.toU r16).bind fun u17=>
    (U.asI .i64 u17).bind fun n18=>some (decide (0≤n18))
    else some (decide ((0:Int)<(k:Int))))=some ((prev es k).any fun q=>decide (0≤cmp3 q es[k])):=by
   by_cases h0:k=0
   ·subst h0;simp[prev]
   ·obtain⟨g,g0,g1,g2,g3⟩:=struct_uE es[k - 1]
    simp only[show((0:Int)<k) by omega,decide_true,if_true,wrap_k1 h0 (by omega),idx_uEs (b:=b2) (get?_of_lt (show k - 1<es.length by omega)),oS,g0,g1,g2,g3,i_uI,y78_is,toU_val,asI_c,prev_pos hlt h0,Option.any_some]
  simp only[oS,show((k:Int)<es.length) by omega,decide_true,if_true,idx_uEs (get?_of_lt hlt),f0,f1,f2,f3,i_uI,wrap_sub1 hg,y69_is,toU_val,asB_c,wrap_succ (show k≤1000000000 by omega),ih']
  rw[hq]
  simp only[edgesOK,eOK]
  rcases Bool.eq_false_or_eq_true (btw es[k].f 0 (n - 1))with h1 |h1<;>rcases Bool.eq_false_or_eq_true (btw es[k].t 0 (n - 1))with h2 |h2<;>rcases Bool.eq_false_or_eq_true (btw es[k].a 0 11)with h3 |h3<;>rcases Bool.eq_false_or_eq_true ((prev es k).any fun q=>decide (0≤cmp3 q es[k]))with h4 |h4<;>simp[h1,h2,h3,h4]
theorem y48_1_is(hg:btw n 0 400=true)(hl:l.length≤1000000)(he:es.length≤1000000): ∀(d k:Nat),k+d=l.length→y48_1 M n (uIs b1 l) (uEs b2 es) (uIs b1 l) (l.length:Int) (k:Int)=some (.val (uI (if(ascOK n (prev l k) (l.drop k)&&edgesOK n none es)=true then(if n≤60 then 0 else 2)else 5))):=by
 intro d
 induction d with
 |zero=>
  intro k hk
  have:=y48_2_is (M:=M) (b2:=b2) (a1:=uIs b1 l) hg he es.length 0 (by omega)
  rw[List.drop_zero,show((0:Nat):Int)=0 from rfl,show prev es 0=none from rfl]at this
  rw[y48_1_eq,dL (by omega)]
  simp only[len_uEs,oS,show¬((k:Int)<l.length) by omega,decide_false,bF,if_false,ascOK,this,Bool.true_and]
 |succ d ih=>
  intro k hk
  have hlt:k<l.length:=by omega
  have ih':=ih (k+1) (by omega)
  rw[prev_succ hlt]at ih'
  rw[y48_1_eq,List.drop_eq_getElem_cons hlt]
  have hq:(if(decide ((0:Int)<(k:Int)))=true then
    (U.idx 1 (uIs b1 l) (IntKind.wrap .i64 ((k:Int) - 1))).bind fun v7=>
    (U.cell v7 0).bind fun c8=>
    (U.asI .i64 c8).bind fun n9=>some (decide (l[k]≤n9))
    else some (decide ((0:Int)<(k:Int))))=some ((prev l k).any fun y=>decide (l[k]≤y)):=by
   by_cases h0:k=0
   ·subst h0;simp[prev]
   ·simp only[show((0:Int)<k) by omega,decide_true,if_true,wrap_k1 h0 (by omega),idx_uIs (b:=b1) (get?_of_lt (show k - 1<l.length by omega)),oS,cell_c,asI_c,prev_pos hlt h0,Option.any_some]
  simp only[oS,show((k:Int)<l.length) by omega,decide_true,if_true,idx_uIs (get?_of_lt hlt),cell_c,asI_c,wrap_sub1 hg,y69_is,toU_val,asB_c,wrap_succ (show k≤1000000000 by omega),ih',ascOK]
  rw[hq]
  rcases Bool.eq_false_or_eq_true (btw l[k] 0 (n - 1))with h1 |h1<;>rcases Bool.eq_false_or_eq_true ((prev l k).any fun y=>decide (l[k]≤y))with h2 |h2<;>simp[h1,h2]
theorem y48_is(hl:l.length≤1000000)(he:es.length≤1000000):y48 M n (uIs b1 l) (uEs b2 es)=some (.val (uI (gErr n l es))):=by
 rw[y48_eq]
 simp only[y69_is,oS,toU_val,asB_c,len_uIs,len_uEs]
 unfold gErr gForm
 by_cases hg:btw n 0 400=true
 ·have h1:=y48_1_is (M:=M) (b1:=b1) (b2:=b2) hg hl he l.length 0 (by omega)
  rw[List.drop_zero,show((0:Nat):Int)=0 from rfl,show prev l 0=none from rfl]at h1
  have e2:decide ((2000:Int)<(es.length:Int))= !decide (es.length≤2000):=by rw[←decide_not,decide_eq_decide];omega
  rw[e2,h1,hg]
  cases decide (es.length≤2000)<;>simp
 ·simp only[Bool.not_eq_true]at hg
  simp[hg]
def lErr(n:Int)(lab:List Int):Int:=if(lab.length:Int)=n then(if(lab.all fun x=>btw x 0 10000)=true then 0 else 3)else 6
theorem y18_1_is(hl:lab.length≤1000000): ∀(d k:Nat),k+d=lab.length→y18_1 M (uIs b3 lab) (k:Int)=some (.val (uI (if((lab.drop k).all fun x=>btw x 0 10000)=true then 0 else 3))):=by
 intro d
 induction d with
 |zero=>
  intro k hk
  rw[y18_1_eq,dL (by omega)]
  simp[show¬(k<lab.length) by omega]
 |succ d ih=>
  intro k hk
  have hlt:k<lab.length:=by omega
  rw[y18_1_eq,List.drop_eq_getElem_cons hlt]
  simp only[len_uIs,show((k:Int)<lab.length) by omega,decide_true,if_true,idx_uIs (get?_of_lt hlt),oS,cell_c,asI_c,y37_is,toU_val,asB_c,wrap_succ (show k≤1000000000 by omega),ih (k+1) (by omega),List.all_cons]
  rcases Bool.eq_false_or_eq_true (btw lab[k] 0 10000)with h1 |h1<;>simp[h1]
theorem y18_is{a1 a2:U}(hl:lab.length≤1000000):y18 M n a1 a2 (uIs b3 lab)=some (.val (uI (lErr n lab))):=by
 have h1:=y18_1_is (M:=M) (b3:=b3) hl lab.length 0 (by omega)
 rw[List.drop_zero,show((0:Nat):Int)=0 from rfl]at h1
 rw[y18_eq]
 simp only[len_uIs,oS,h1]
 unfold lErr
 by_cases h:(lab.length:Int)=n<;>simp[h]
theorem y50_is{a1 a2:U}(hl:lab.length≤1000000):y50 M n a1 a2 (uIs b3 lab)=some (.val (uI (lErr n lab))):=by
 have hp: ∀n,ycall M 80 ([]++[uI n]++[])=some (.val (.c (.bool (!btw n 0 10000)))):=fun n=>y80_is n
 have hlit:=fun a b=>y49_lit (M:=M) [a,b] (by simp)
 simp only[List.map_cons,List.map_nil,uI]at hlit
 rw[y50_eq]
 simp only[y79_is hp hl,oS,toU_val,asB_c,len_uIs,y68_is,asI_c,hlit]
 have:(lab.any fun n=> !btw n 0 10000)= !(lab.all fun n=>btw n 0 10000):=by rw[List.any_eq_not_all_not];simp
 rw[this]
 unfold lErr
 by_cases h:(lab.length:Int)=n<;>cases(lab.all fun x=>btw x 0 10000)<;>simp[h,firstErr]
def few(n:Int)(l:List Int)(es:List E3):Bool:=(decide (n≤8)||decide (60<n))&&decide (l.length≤70)&&decide (es.length≤30)
theorem y11_is:y11 M n (uIs b1 l) (uEs b2 es)=some (.val (.c (.bool (few n l es)))):=by
 rw[y11_eq]
 simp only[len_uIs,len_uEs,oS]
 unfold few
 have e1:decide ((l.length:Int)≤70)=decide (l.length≤70):=by rw[decide_eq_decide];omega
 have e2:decide ((es.length:Int)≤30)=decide (es.length≤30):=by rw[decide_eq_decide];omega
 rw[e1,e2]
 cases decide (n≤8)<;>cases decide (60<n)<;>cases decide (l.length≤70)<;>cases decide (es.length≤30)<;>rfl
theorem edgesOK_all: ∀{es:List E3} {p:Option E3},edgesOK n p es=true→ ∀e∈es,eOK n e=true
 |e::es,p,h,x,hx=>by
  simp only[edgesOK,bA]at h
  rcases List.mem_cons.1 hx with rfl |hx
  ·exact h.1.1
  ·exact edgesOK_all h.2 x hx
theorem gErr_ok(h:gErr n l es=0):btw n 0 60=true∧ascOK n none l=true∧edgesOK n none es=true∧es.length≤2000:=by
 unfold gErr at h
 split at h
 ·rename_i h1
  split at h
  ·rename_i h2
   simp only[gForm,bA,btw,decide_eq_true_eq]at h1
   exact⟨by simp only[btw,decide_eq_true_eq];omega,h1.1.2,h1.2,h1.1.1.2⟩
  ·cases h
 ·cases h
theorem eOK_good{N:Nat}{e:E3}(h:eOK (N:Int) e=true):GoodE N e∧0≤e.t∧e.t<N:=by
 simp only[eOK,bA,btw,decide_eq_true_eq]at h
 unfold GoodE
 omega
theorem y61_is(hM:HasOpen M){u1:U}{N:Nat}(hN:N≤60)(he:es.length≤2000)(hok:edgesOK N none es=true):y61 M (N:Int) u1 (uEs b2 es)=some (.val (openU N u1 b2 es)):=by
 have hg:good (N:Int) es=true:=by
  simp only[good,bA,decide_eq_true_eq,List.all_eq_true]
  exact⟨⟨by omega,by omega,by omega⟩,fun e h=>by rw[iN];exact(eOK_good (edgesOK_all hok e h)).1⟩
 unfold y61 yrunM
 rw[yrun_eq]
 have:Vm.ystepR M.ext yprog md (Vm.yrun M.ext yprog md) 61 0 [.val (.st [.c (.int .i64 N),u1,uEs b2 es])] []=M.ext 61 [.st [uI N,u1, .sl b2 (es.map uE)]]:=by kernel_rfl
 rw[this,hM,openY_is hg,iN]
end
def at0(l:List Int)(i:Nat):Int:=l.getD i 0
theorem idx_at{b:Bool}{l:List Int}{x:Int}(h0:0≤x)(h:x<l.length):U.idx 1 (uIs b l) x=some (uI (at0 l x.toNat)):=by
 obtain⟨k,rfl⟩:=Int.eq_ofNat_of_zero_le h0
 have hk:k<l.length:=by omega
 rw[idx_uIs (get?_of_lt hk),iN]
 simp[at0,hk]
def picks(p:Nat→Bool):Nat→Nat→List Int
 | 0,_=>[]
 |d+1,k=>(if p k=true then [(k:Int)]else [])++picks p d (k+1)
theorem picks_len(p:Nat→Bool): ∀d k,(picks p d k).length≤d
 | 0,_=>nR _
 |d+1,k=>by
  have:=picks_len p d (k+1)
  simp only[picks,List.length_append]
  split<;>simp<;>omega
end Go.Proofs.Ythjjbkiejkhjfaa.R
