/- - -/
import Derived.Test.YthjjbkiejkhjfaaWa
set_option linter.all false
namespace Go.Proofs.Ythjjbkiejkhjfaa.R
open Go Go.Proofs.Ythjjbkiejkhjfaa.Vm
variable{M:YM}
def prev{α:Type}(l:List α)(k:Nat):Option α:=if k=0 then none else l[k - 1]?
theorem k0g{α:Type}{l:List α}{k:Nat}(h:k<l.length):prev l (k+1)=some l[k]:=by unfold prev;simp[h]
theorem w0m{α:Type}{l:List α}{k:Nat}(h:k<l.length)(h0: ¬k=0):prev l k=some l[k - 1]:=by unfold prev;rw[if_neg h0];exact q0b (by omega)
def ascOK(n:Int):Option Int->List Int->Bool
 |_,[]=>true
 |p,x::l=>btw x 0 (n - 1)&& !(p.any fun y=>decide (x<=y))&&ascOK n (some x) l
def eOK(n:Int)(e:E3):Bool:=btw e.f 0 (n - 1)&&btw e.t 0 (n - 1)&&btw e.a 0 11
def edgesOK(n:Int):Option E3->List E3->Bool
 |_,[]=>true
 |p,e::l=>eOK n e&& !(p.any fun q=>decide (0<=cmp3 q e))&&edgesOK n (some e) l
def gForm(n:Int)(l:List Int)(es:List E3):Bool:=btw n 0 400&&decide (es.length<=2000)&&ascOK n none l&&edgesOK n none es
def gErr(n:Int)(l:List Int)(es:List E3):Int:=if gForm n l es=true then(if n<=60 then 0 else 2)else 5
theorem k0h{a:Int}(h:btw a 0 400=true):IntKind.wrap .i64 (a - 1)=a - 1:=by
 simp only[btw,dE]at h
 exact z0s (by omega) (by omega)
theorem Q0Z{k:Nat}(h0: ¬k=0)(hk:k<=1000000000):IntKind.wrap .i64 ((k:Int) - 1)=((k - 1:Nat):Int):=by rw[z0s (by omega) (by omega)];omega
theorem Z0b{n:Int}: ∀{l:List Int} {p:Option Int},ascOK n p l=true-> ∀q:Int,0<=q->(∀y,p=some y->q=y+1)->(p=none->q=0)->q<=n->q+l.length<=n
 | [],p,_,q,_,_,_,h=>by simpa using h
 |x::l,p,h,q,hq,h1,h2,h3=>by
  simp only[ascOK,bA,btw,dE]at h
  have hx:q<=x:=by
   cases p with
   |none=>rw[h2 rfl];exact h.1.1.1
   |some y=>
    have:=h.1.2
    simp only[Option.any_some,bN,dN]at this
    rw[h1 y rfl];omega
  have:=Z0b h.2 (x+1) (by omega) (fun y hy=>by cases hy;rfl) (fun h=>by cases h) (by omega)
  rw[List.length_cons]
  omega
section
variable{n:Int}{b1 b2 b3:Bool}{l lab:List Int}{es:List E3}
theorem k1q(hg:btw n 0 400=true)(he:es.length<=1000000){a1:U}: ∀(d k:Nat),k+d=es.length->y55_2 M n a1 (uEs b2 es) (k:Int)=some (.val (.c (.bool (edgesOK n (prev es k) (es.drop k))))):=by
 intro d
 induction d with
 |zero=>
  intro k hk
  rw[Y0o,dL (by omega)]
  simp only[len_uEs,oS,show¬((k:Int)<es.length) by omega,dF,bF,iF,edgesOK]
 |succ d ih=>
  intro k hk
  have hlt:k<es.length:=by omega
  have ih':=ih (k+1) (by omega)
  rw[k0g hlt]at ih'
  obtain⟨f,f0,f1,f2,f3⟩:=q0t es[k]
  rw[Y0o,List.drop_eq_getElem_cons hlt]
  have hq:(if(decide ((0:Int)<(k:Int)))=true then
    (U.idx 3 (uEs b2 es) (IntKind.wrap .i64 ((k:Int) - 1))).bind fun v15=>
    (U.struct v15 0 ks2).bind fun f16=>
    (y89 M ((f16 0).i) ((f16 1).i) ((f16 2).i)).bind fun r17=>
    (Rz.asSl r17).bind fun s18=>
    (y89 M es[k].f es[k].t es[k].a).bind fun r19=>
    (Rz.asSl r19).bind fun s20=>
    (y88 M (Sx.fz s18) (Sx.fz s20)).bind fun r21=>
    (Rz.toU r21).bind fun u22=>
    (U.asI .i64 u22).bind fun n23=>some (decide (0<=n23))
    else some (decide ((0:Int)<(k:Int))))=some ((prev es k).any fun q=>decide (0<=cmp3 q es[k])):=by
   by_cases h0:k=0
   ·subst h0;simp[prev]
   ·obtain⟨g,g0,g1,g2,g3⟩:=q0t es[k - 1]
    have h88:=fun(x y:E3)=>K1f (M:=M) (b1:=true) (b2:=true) x y
    simp only[uIs]at h88
    have hfz: ∀x:E3,Sx.fz (⟨true,1,[x.f,x.t,x.a].map uI⟩:Sx)=U.sl true ([x.f,x.t,x.a].map uI):=fun _=>rfl
    simp only[show((0:Int)<k) by omega,dY,iT,Q0Z h0 (by omega),q0l (b:=b2) (q0b (show k - 1<es.length by omega)),oS,g0,g1,g2,g3,i_uI,K1e,asSl_sl,hfz,h88,toU_val,asI_c,w0m hlt h0,Option.any_some]
  simp only[len_uEs,oS,show((k:Int)<es.length) by omega,dY,iT,q0l (q0b hlt),f0,f1,f2,f3,i_uI,k0h hg,W0t,toU_val,asB_c,q0a (show k<=1000000000 by omega),ih']
  rw[hq]
  simp only[edgesOK,eOK]
  cases btw es[k].f 0 (n - 1)<;>cases btw es[k].t 0 (n - 1)<;>cases btw es[k].a 0 11<;>cases((prev es k).any fun q=>decide (0<=cmp3 q es[k]))<;>simp
theorem k1r(hg:btw n 0 400=true)(hl:l.length<=1000000)(he:es.length<=1000000): ∀(d k:Nat),k+d=l.length->y55_1 M n (uIs b1 l) (uEs b2 es) (k:Int)=some (.val (.c (.bool (ascOK n (prev l k) (l.drop k)&&edgesOK n none es)))):=by
 intro d
 induction d with
 |zero=>
  intro k hk
  have:=k1q (M:=M) (b2:=b2) (a1:=uIs b1 l) hg he es.length 0 (by omega)
  rw[List.drop_zero,show((0:Nat):Int)=0 from rfl,show prev es 0=none from rfl]at this
  rw[Y0n,dL (by omega)]
  simp only[len_uIs,oS,show¬((k:Int)<l.length) by omega,dF,bF,iF,ascOK,this,Bool.true_and]
 |succ d ih=>
  intro k hk
  have hlt:k<l.length:=by omega
  have ih':=ih (k+1) (by omega)
  rw[k0g hlt]at ih'
  rw[Y0n,List.drop_eq_getElem_cons hlt]
  have hq:(if(decide ((0:Int)<(k:Int)))=true then
    (U.idx 1 (uIs b1 l) (k:Int)).bind fun v8=>
    (U.idx 1 (uIs b1 l) (IntKind.wrap .i64 ((k:Int) - 1))).bind fun v9=>
    (U.cell v8 0).bind fun c10=>
    (U.asI .i64 c10).bind fun n11=>
    (U.cell v9 0).bind fun c12=>
    (U.asI .i64 c12).bind fun n13=>some (decide (n11<=n13))
    else some (decide ((0:Int)<(k:Int))))=some ((prev l k).any fun y=>decide (l[k]<=y)):=by
   by_cases h0:k=0
   ·subst h0;simp[prev]
   ·simp only[show((0:Int)<k) by omega,dY,iT,Q0Z h0 (by omega),q0m (b:=b1) (q0b (show k - 1<l.length by omega)),q0m (b:=b1) (q0b hlt),oS,cell_c,asI_c,w0m hlt h0,Option.any_some]
  rw[hq]
  simp only[len_uIs,oS,show((k:Int)<l.length) by omega,dY,iT,q0m (q0b hlt),cell_c,asI_c,k0h hg,W0t,toU_val,asB_c,q0a (show k<=1000000000 by omega),ih',ascOK]
  cases btw l[k] 0 (n - 1)<;>cases((prev l k).any fun y=>decide (l[k]<=y))<;>simp
theorem Z1I(hl:l.length<=1000000)(he:es.length<=1000000):y55 M n (uIs b1 l) (uEs b2 es)=some (.val (.c (.bool (gForm n l es)))):=by
 rw[W1r]
 simp only[W0t,oS,toU_val,asB_c,len_uIs,len_uEs]
 unfold gForm
 by_cases hg:btw n 0 400=true
 ·have h1:=k1r (M:=M) (b1:=b1) (b2:=b2) hg hl he l.length 0 (by omega)
  rw[List.drop_zero,show((0:Nat):Int)=0 from rfl,show prev l 0=none from rfl]at h1
  have e2:decide ((2000:Int)<(es.length:Int))= !decide (es.length<=2000):=by rw[<-decide_not,decide_eq_decide];omega
  rw[e2,h1,hg]
  by_cases hln:n<(l.length:Int)
  ·have:ascOK n none l=false:=by
    cases h:ascOK n none l with
    |false=>rfl
    |true=>
     simp only[btw,dE]at hg
     have:=Z0b h 0 (by omega) (fun y hy=>by cases hy) (fun _=>rfl) hg.1
     omega
   rw[this]
   simp[hln]
  ·cases decide (es.length<=2000)<;>simp[hln]
 ·simp only[Bool.not_eq_true]at hg
  simp[hg]
theorem Z1J(hl:l.length<=1000000)(he:es.length<=1000000):y17 M n (uIs b1 l) (uEs b2 es)=some (.val (uI (gErr n l es))):=by
 rw[W1a]
 simp only[Z1I hl he,oS,toU_val,asB_c]
 unfold gErr
 cases gForm n l es with
 |false=>rfl
 |true=>
  by_cases h:n<=60
  ·simp[h,show¬(60<n) by omega]
  ·simp[h,show 60<n by omega]
theorem k1s(hg:btw n 0 400=true)(he:es.length<=1000000){a1:U}: ∀(d k:Nat),k+d=es.length->y48_2 M n a1 (uEs b2 es) (uEs b2 es) (es.length:Int) (k:Int)=some (.val (uI (if edgesOK n (prev es k) (es.drop k)=true then(if n<=60 then 0 else 2)else 5))):=by
 intro d
 induction d with
 |zero=>
  intro k hk
  rw[Y0l,dL (by omega)]
  simp only[oS,show¬((k:Int)<es.length) by omega,dF,bF,iF,edgesOK,Q1V,toU_val,asI_c,iT,dE]
 |succ d ih=>
  intro k hk
  have hlt:k<es.length:=by omega
  have ih':=ih (k+1) (by omega)
  rw[k0g hlt]at ih'
  obtain⟨f,f0,f1,f2,f3⟩:=q0t es[k]
  rw[Y0l,List.drop_eq_getElem_cons hlt]
  have hq:(if(decide ((0:Int)<(k:Int)))=true then
    (U.idx 3 (uEs b2 es) (IntKind.wrap .i64 ((k:Int) - 1))).bind fun v14=>
    (U.struct v14 0 ks2).bind fun f15=>
    (y78 M ((f15 0).i) ((f15 1).i) ((f15 2).i) es[k].f es[k].t es[k].a).bind fun r16=>
    (Rz.toU r16).bind fun u17=>
    (U.asI .i64 u17).bind fun n18=>some (decide (0<=n18))
    else some (decide ((0:Int)<(k:Int))))=some ((prev es k).any fun q=>decide (0<=cmp3 q es[k])):=by
   by_cases h0:k=0
   ·subst h0;simp[prev]
   ·obtain⟨g,g0,g1,g2,g3⟩:=q0t es[k - 1]
    simp only[show((0:Int)<k) by omega,dY,iT,Q0Z h0 (by omega),q0l (b:=b2) (q0b (show k - 1<es.length by omega)),oS,g0,g1,g2,g3,i_uI,Q1W,toU_val,asI_c,w0m hlt h0,Option.any_some]
  simp only[oS,show((k:Int)<es.length) by omega,dY,iT,q0l (q0b hlt),f0,f1,f2,f3,i_uI,k0h hg,W0u,toU_val,asB_c,q0a (show k<=1000000000 by omega),ih']
  rw[hq]
  simp only[edgesOK,eOK]
  rcases Bool.eq_false_or_eq_true (btw es[k].f 0 (n - 1))with h1 |h1<;>rcases Bool.eq_false_or_eq_true (btw es[k].t 0 (n - 1))with h2 |h2<;>rcases Bool.eq_false_or_eq_true (btw es[k].a 0 11)with h3 |h3<;>rcases Bool.eq_false_or_eq_true ((prev es k).any fun q=>decide (0<=cmp3 q es[k]))with h4 |h4<;>simp[h1,h2,h3,h4]
theorem k1t(hg:btw n 0 400=true)(hl:l.length<=1000000)(he:es.length<=1000000): ∀(d k:Nat),k+d=l.length->y48_1 M n (uIs b1 l) (uEs b2 es) (uIs b1 l) (l.length:Int) (k:Int)=some (.val (uI (if(ascOK n (prev l k) (l.drop k)&&edgesOK n none es)=true then(if n<=60 then 0 else 2)else 5))):=by
 intro d
 induction d with
 |zero=>
  intro k hk
  have:=k1s (M:=M) (b2:=b2) (a1:=uIs b1 l) hg he es.length 0 (by omega)
  rw[List.drop_zero,show((0:Nat):Int)=0 from rfl,show prev es 0=none from rfl]at this
  rw[Y0k,dL (by omega)]
  simp only[len_uEs,oS,show¬((k:Int)<l.length) by omega,dF,bF,iF,ascOK,this,Bool.true_and]
 |succ d ih=>
  intro k hk
  have hlt:k<l.length:=by omega
  have ih':=ih (k+1) (by omega)
  rw[k0g hlt]at ih'
  rw[Y0k,List.drop_eq_getElem_cons hlt]
  have hq:(if(decide ((0:Int)<(k:Int)))=true then
    (U.idx 1 (uIs b1 l) (IntKind.wrap .i64 ((k:Int) - 1))).bind fun v7=>
    (U.cell v7 0).bind fun c8=>
    (U.asI .i64 c8).bind fun n9=>some (decide (l[k]<=n9))
    else some (decide ((0:Int)<(k:Int))))=some ((prev l k).any fun y=>decide (l[k]<=y)):=by
   by_cases h0:k=0
   ·subst h0;simp[prev]
   ·simp only[show((0:Int)<k) by omega,dY,iT,Q0Z h0 (by omega),q0m (b:=b1) (q0b (show k - 1<l.length by omega)),oS,cell_c,asI_c,w0m hlt h0,Option.any_some]
  simp only[oS,show((k:Int)<l.length) by omega,dY,iT,q0m (q0b hlt),cell_c,asI_c,k0h hg,W0u,toU_val,asB_c,q0a (show k<=1000000000 by omega),ih',ascOK]
  rw[hq]
  rcases Bool.eq_false_or_eq_true (btw l[k] 0 (n - 1))with h1 |h1<;>rcases Bool.eq_false_or_eq_true ((prev l k).any fun y=>decide (l[k]<=y))with h2 |h2<;>simp[h1,h2]
theorem Z1K(hl:l.length<=1000000)(he:es.length<=1000000):y48 M n (uIs b1 l) (uEs b2 es)=some (.val (uI (gErr n l es))):=by
 rw[W1n]
 simp only[W0u,oS,toU_val,asB_c,len_uIs,len_uEs]
 unfold gErr gForm
 by_cases hg:btw n 0 400=true
 ·have h1:=k1t (M:=M) (b1:=b1) (b2:=b2) hg hl he l.length 0 (by omega)
  rw[List.drop_zero,show((0:Nat):Int)=0 from rfl,show prev l 0=none from rfl]at h1
  have e2:decide ((2000:Int)<(es.length:Int))= !decide (es.length<=2000):=by rw[<-decide_not,decide_eq_decide];omega
  rw[e2,h1,hg]
  cases decide (es.length<=2000)<;>simp
 ·simp only[Bool.not_eq_true]at hg
  simp[hg]
def lErr(n:Int)(lab:List Int):Int:=if(lab.length:Int)=n then(if(lab.all fun x=>btw x 0 10000)=true then 0 else 3)else 6
theorem k1u(hl:lab.length<=1000000): ∀(d k:Nat),k+d=lab.length->y18_1 M (uIs b3 lab) (k:Int)=some (.val (uI (if((lab.drop k).all fun x=>btw x 0 10000)=true then 0 else 3))):=by
 intro d
 induction d with
 |zero=>
  intro k hk
  rw[X0I,dL (by omega)]
  simp[show¬(k<lab.length) by omega]
 |succ d ih=>
  intro k hk
  have hlt:k<lab.length:=by omega
  rw[X0I,List.drop_eq_getElem_cons hlt]
  simp only[len_uIs,show((k:Int)<lab.length) by omega,dY,iT,q0m (q0b hlt),oS,cell_c,asI_c,W0t,toU_val,asB_c,q0a (show k<=1000000000 by omega),ih (k+1) (by omega),List.all_cons]
  rcases Bool.eq_false_or_eq_true (btw lab[k] 0 10000)with h1 |h1<;>simp[h1]
theorem Z1L{a1 a2:U}(hl:lab.length<=1000000):y18 M n a1 a2 (uIs b3 lab)=some (.val (uI (lErr n lab))):=by
 have h1:=k1u (M:=M) (b3:=b3) hl lab.length 0 (by omega)
 rw[List.drop_zero,show((0:Nat):Int)=0 from rfl]at h1
 rw[W1b]
 simp only[len_uIs,oS,h1]
 unfold lErr
 by_cases h:(lab.length:Int)=n<;>simp[h]
theorem Z1M{a1 a2:U}(hl:lab.length<=1000000):y50 M n a1 a2 (uIs b3 lab)=some (.val (uI (lErr n lab))):=by
 have hp: ∀n,ycall M 80 ([]++[uI n]++[])=some (.val (.c (.bool (!btw n 0 10000)))):=fun n=>K1d n
 have hlit:=fun a b=>J1A (M:=M) [a,b] (by simp)
 simp only[List.map_cons,List.map_nil,uI]at hlit
 rw[W1p]
 simp only[K1h hp hl,oS,toU_val,asB_c,len_uIs,Q1V,asI_c,hlit]
 have:(lab.any fun n=> !btw n 0 10000)= !(lab.all fun n=>btw n 0 10000):=by rw[List.any_eq_not_all_not];simp
 rw[this]
 unfold lErr
 by_cases h:(lab.length:Int)=n<;>cases(lab.all fun x=>btw x 0 10000)<;>simp[h,firstErr]
def few(n:Int)(l:List Int)(es:List E3):Bool:=(decide (n<=8)||decide (60<n))&&decide (l.length<=70)&&decide (es.length<=30)
theorem Z1N:y11 M n (uIs b1 l) (uEs b2 es)=some (.val (.c (.bool (few n l es)))):=by
 rw[K1X]
 simp only[len_uIs,len_uEs,oS]
 unfold few
 have e1:decide ((l.length:Int)<=70)=decide (l.length<=70):=by rw[decide_eq_decide];omega
 have e2:decide ((es.length:Int)<=30)=decide (es.length<=30):=by rw[decide_eq_decide];omega
 rw[e1,e2]
 cases decide (n<=8)<;>cases decide (60<n)<;>cases decide (l.length<=70)<;>cases decide (es.length<=30)<;>rfl
theorem j0V: ∀{es:List E3} {p:Option E3},edgesOK n p es=true-> ∀e∈es,eOK n e=true
 |e::es,p,h,x,hx=>by
  simp only[edgesOK,bA]at h
  rcases mC.1 hx with rfl |hx
  ·exact h.1.1
  ·exact j0V h.2 x hx
theorem J1s(h:gErr n l es=0):btw n 0 60=true/\ascOK n none l=true/\edgesOK n none es=true/\es.length<=2000:=by
 unfold gErr at h
 split at h
 ·rename_i h1
  split at h
  ·rename_i h2
   simp only[gForm,bA,btw,dE]at h1
   exact⟨by simp only[btw,dE];omega,h1.1.2,h1.2,h1.1.1.2⟩
  ·cases h
 ·cases h
theorem q0w{N:Nat}{e:E3}(h:eOK (N:Int) e=true):GoodE N e/\0<=e.t/\e.t<N:=by
 simp only[eOK,bA,btw,dE]at h
 unfold GoodE
 omega
theorem Z1O(hM:HasOpen M){u1:U}{N:Nat}(hN:N<=60)(he:es.length<=2000)(hok:edgesOK N none es=true):y61 M (N:Int) u1 (uEs b2 es)=some (.val (openU N u1 b2 es)):=by
 have hg:good (N:Int) es=true:=by
  simp only[good,bA,dE,List.all_eq_true]
  exact⟨⟨by omega,by omega,by omega⟩,fun e h=>by rw[iN];exact(q0w (j0V hok e h)).1⟩
 unfold y61 yrunM
 rw[k0S]
 have:Vm.ystepR M.ext yprog md (Vm.yrun M.ext yprog md) 61 0 [.val (.st [.c (.int .i64 N),u1,uEs b2 es])] []=M.ext 61 [.st [uI N,u1, .sl b2 (es.map uE)]]:=by kernel_rfl
 rw[this,hM,Q1A hg,iN]
end
def at0(l:List Int)(i:Nat):Int:=l.getD i 0
theorem Z0c{b:Bool}{l:List Int}{x:Int}(h0:0<=x)(h:x<l.length):U.idx 1 (uIs b l) x=some (uI (at0 l x.toNat)):=by
 obtain⟨k,rfl⟩:=iZ h0
 have hk:k<l.length:=by omega
 rw[q0m (q0b hk),iN]
 simp[at0,hk]
def picks(p:Nat->Bool):Nat->Nat->List Int
 | 0,_=>[]
 |d+1,k=>(if p k=true then [(k:Int)]else [])++picks p d (k+1)
theorem j0K(p:Nat->Bool): ∀d k,(picks p d k).length<=d
 | 0,_=>nR _
 |d+1,k=>by
  have:=j0K p d (k+1)
  simp only[picks,List.length_append]
  split<;>simp<;>omega
end Go.Proofs.Ythjjbkiejkhjfaa.R
