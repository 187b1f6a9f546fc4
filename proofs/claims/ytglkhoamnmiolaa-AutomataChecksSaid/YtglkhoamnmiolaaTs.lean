/- - -/
import Derived.Test.YtglkhoamnmiolaaTr
import Derived.Test.YtglkhoamnmiolaaTy
set_option linter.all false
namespace Go.Proofs.Ytglkhoamnmiolaa.R
open Go Go.Proofs.Ytglkhoamnmiolaa.Vm
section
variable{a:Int}{l:List Int}{es:List E4}{xs:List (Bool×List Int)}
theorem J1G(h:few a l es xs=true):es.length<=60/\l.length<=40/\xs.length<=12/\ ∀x∈xs,x.2.length<=40:=by
 unfold few at h
 simp only[bA,dE,List.all_eq_true]at h
 exact⟨h.1.1.1.2,h.1.1.2,h.1.2,h.2⟩
theorem J1H(a:Int): ∀(k:Nat) (xs:List (Bool×List Int)),lI a k (cp xs)=lI a k xs
 |_,[]=>rfl
 |k,x::xs=>by
  have:=J1H a (k+1) xs
  simp only[cp]at this
  simp only[cp,List.map_cons,lI,this]
theorem Q1b:aIdx a l es (cp xs)=aIdx a l es xs:=by
 unfold aIdx
 rw[J1H,J0W]
theorem k1t(n:Nat):setsU n (cp xs)=setsU n xs:=by simp[setsU,cp,Function.comp_def]
theorem k1u(num:Nat->Int):keptX num (cp xs)=keptX num xs:=by simp[keptX,cp,Function.comp_def]
theorem k1v(n:Nat):trimR n l es (cp xs)=trimR n l es xs:=by
 unfold trimR usefulL
 rw[k1t,J0W]
 simp only[k1u]
theorem q1I(a:Int)(u1 u2 u3:U): ∃f,U.exact (.st [uI a,u1,u2,u3]) ks2=some f/\f 0=uI a/\f 1=u1/\f 2=u2/\f 3=u3:=⟨_,rfl,rfl,rfl,rfl,rfl⟩
end
section
variable{M:YM}(hM:HasC M){a:Int}{b1 b2 b3:Bool}{l:List Int}{es:List E4}{xs:List (Bool×List Int)}
theorem Q1c:y28 M 0 (.sl false []) (.sl false []) (.sl false [])=some (.val (.c (.bool true))):=by
 rw[Q1x]
 have:=W0S (M:=M) (n:=0) (b1:=false) (b2:=false) (b3:=false) (d1:=false) (d2:=false) (d3:=false) (l:=[]) (es:=[]) (xs:=[]) (by simp) (by simp) (by simp) (by simp)
 have e:y30 M 0 (.sl false []) (.sl false []) (.sl false []) 0 (Sx.fz (⟨false,0,[]⟩:Sx)) (Sx.fz (⟨false,0,[]⟩:Sx)) (Sx.fz (⟨false,0,[]⟩:Sx))=some (.val (.c (.bool true))):=this
 rw[e]
 rfl
include hM
theorem Z1v(h8:y8 M=some (.val (.c (.bool true)))):y6 M a (uIs b1 l) (uEs b2 es) (uLs b3 xs)=some (.val (.c (.bool true))):=by
 have q9:=Z1q (M:=M) (a:=a) (b1:=b1) (b2:=b2) (b3:=b3) (l:=l) (es:=es) (xs:=xs)
 rw[Z1k]
 simp only[h8,oS,toU_val,asB_c,Bool.not_true,bF,iF,q9]
 cases f1:few a l es xs with
 |false=>simp
 |true=>
  obtain⟨n1,n2,n3,n4⟩:=J1G f1
  have nx: ∀x∈xs,x.2.length<=1000000:=fun x hx=>by have:=n4 x hx;omega
  have nxc: ∀x∈cp xs,x.2.length<=1000000:=fun x hx=>by
   obtain⟨y,hy,rfl⟩:=List.mem_map.1 hx
   exact nx y hy
  obtain⟨c1,o1⟩:=Q1Z (M:=M) (a:=a) (b1:=b1) (b2:=b2) (b3:=b3) (l:=l) (es:=es) (xs:=xs) (by omega) (by omega) (by omega) nx
  obtain⟨g,e0,e10,e11,e12,e13⟩:=q1I a (uIs true l) (uEs true es) (uLs c1 (cp xs))
  have q25:=J1i (M:=M) (a:=a) (b1:=true) (b2:=true) (b3:=c1) (l:=l) (es:=es) (xs:=cp xs) (by omega) (by omega) (by rw[J0W];omega) nxc
  have q27:=J1h (M:=M) (a:=a) (b1:=b1) (b2:=b2) (b3:=b3) (l:=l) (es:=es) (xs:=xs) (by omega) (by omega) (by omega) nx
  have q36:=J1F (M:=M) (a:=a) (b1:=true) (b2:=true) (b3:=c1) (l:=l) (es:=es) (xs:=cp xs) (by omega) (by omega) (by rw[J0W];omega) nxc
  rw[Y0Z]at q25 q36
  rw[Q1b]at q25
  by_cases h0:aErr a l es xs=0
  ·
   obtain⟨p1,p2,p3,p4,p5,p6⟩:=aErr_zero.1 h0
   simp only[btw,dE]at p1
   obtain⟨n,rfl⟩:=iZ p1.1
   have hxs: ∀x∈xs,x.2.length<=1000000/\ ∀s∈x.2,0<=s/\s<(n:Int):=fun x hx=>⟨nx x hx,(sErr_zero.1 (p6 x hx)).1⟩
   have hls:=(sErr_zero.1 p5).1
   have q64:=J1v (M:=M) (a:=n) (b1:=true) (b2:=true) (b3:=c1) (l:=l) (es:=es) (xs:=cp xs) hM (by rw[Y0Z];exact h0) (by omega) nxc
   rw[k1v]at q64
   have q40:=J1u (M:=M) (a:=n) (b1:=b1) (b2:=b2) (b3:=b3) (l:=l) (es:=es) (xs:=xs) hM h0 (by omega) nx
   have q29:=J1p (M:=M) (P:=usefulL n l es xs) (b1:=b1) (b2:=b2) (b3:=b3) (Q0m n l es xs) (by omega) p4 (by omega) p3 hls (by omega) hxs q40
   have hR:trimR n l es xs=trimP (usefulL n l es xs) n l es xs:=rfl
   rw[hR]at q64
   unfold trimP at q64 q29
   generalize usefulL n l es xs=P at q64 q29
   obtain⟨g2,e2,e20,e21,e22,e23⟩:=q1I ((oldL P n).length:Nat) (uIs (!(keptL (numF P n) l).isEmpty) (keptL (numF P n) l)) (uEs (!(keptE (numF P n) es).isEmpty) (keptE (numF P n) es)) (uLs (!(keptX (numF P n) xs).isEmpty) (keptX (numF P n) xs))
   have k1:=w0C (numF P n) l
   have k2:=w0E (numF P n) es
   have k3:(keptX (numF P n) xs).length=xs.length:=by simp[keptX]
   have k4: ∀x∈keptX (numF P n) xs,x.2.length<=1000000:=fun x hx=>by
    obtain⟨y,hy,rfl⟩:=List.mem_map.1 hx
    have:=w0C (numF P n) y.2
    have:=nx y hy
    show(keptL (numF P n) y.2).length<=1000000
    omega
   have k5:=Q0Y P n
   have q30:=W0S (M:=M) (n:=((oldL P n).length:Nat)) (b1:= !(keptL (numF P n) l).isEmpty) (b2:= !(keptE (numF P n) es).isEmpty) (b3:= !(keptX (numF P n) xs).isEmpty) (d1:= !(keptL (numF P n) l).isEmpty) (d2:= !(keptE (numF P n) es).isEmpty) (d3:= !(keptX (numF P n) xs).isEmpty) (l:=keptL (numF P n) l) (es:=keptE (numF P n) es) (xs:=keptX (numF P n) xs) (by omega) (by omega) (by omega) k4
   have q31:=J0o (M:=M) (b:= !(oldL P n).isEmpty) (b':= !(oldL P n).isEmpty) (l:=oldL P n) (by omega)
   have q26:y26 M (n:Int) (uIs true l) (uEs true es) (uLs c1 (cp xs))=some (.tup [.st [uI ((oldL P n).length:Nat),uIs (!(keptL (numF P n) l).isEmpty) (keptL (numF P n) l),uEs (!(keptE (numF P n) es).isEmpty) (keptE (numF P n) es),uLs (!(keptX (numF P n) xs).isEmpty) (keptX (numF P n) xs)],uIs (!(oldL P n).isEmpty) (oldL P n),uI 0]):=by
    rw[k1O]
    simp only[q36,h0,oS,toU_val,asI_c,dY,Bool.not_true,bF,iF,q64,asTup_tup,List.getElem?_cons_zero,List.getElem?_cons_succ,e2,e20,e21,e22,e23,one_uIs,i_uI]
   simp only[Bool.not_true,bF,iF,o1,oS,toU_val,e0,e10,e11,e12,e13,i_uI,q25,asTup_tup,List.getElem?_cons_zero,List.getElem?_cons_succ,asI_c,q26,e2,one_uIs,q27,h0,dY,Bool.not_true,iT,q29,e20,e21,e22,e23,q30,q31,asB_c]
  ·have q26:y26 M a (uIs true l) (uEs true es) (uLs c1 (cp xs))=some (.tup [.st [uI 0, .sl false [], .sl false [], .sl false []], .sl false [],uI (aErr a l es xs)]):=by
    rw[k1O]
    simp only[q36,oS,toU_val,asI_c,h0,dF,Bool.not_false,iT]
    rfl
   obtain⟨g2,e2,e20,e21,e22,e23⟩:=q1I 0 (.sl false []) (.sl false []) (.sl false [])
   have ln:U.len (.sl false [])=some 0:=rfl
   have on:U.one (.sl false [])=some (.sl false []):=rfl
   simp only[Bool.not_true,bF,iF,o1,oS,toU_val,e0,e10,e11,e12,e13,i_uI,q25,asTup_tup,List.getElem?_cons_zero,List.getElem?_cons_succ,asI_c,q26,e2,on,q27,h0,dY,dF,Bool.not_true,Bool.not_false,iT,e20,e21,e22,e23,Q1c,asB_c,ln]
   rfl
end
theorem J1I:HasC MC:=fun us=>⟨rfl,rfl⟩
theorem k1w:y8 MC=some (.val (.c (.bool true))):=by
 unfold y8 yrunM
 rw[w0W]
 kernel_rfl
theorem ylawC{f:FuncId}(hf:md f=[.sc]){us:List U}{vs:List V}{H:Heap}
  (h:Vm.yrun yExtC yprog md f 0 (us.map .val) []=some (.val (.c (.bool true)))) (hv:UVs H (fun i=>i<H.next) us vs): ∃H',Vm.run (awExt 8) (progOf 8 prog true) H.next f 0 (vs.map .val) H=some (.c (.bool true),H'):=by
 obtain⟨v,H',F',h1, -, -, -, -, -,h2⟩:=z0J (vext:=awExt 8) (yext:=yExtC) (prog:=progOf 8 prog true) (lim:=H.next) w0m (z1N _) f us _ h H (fun i=>i<H.next) vs (nR _) (fun _ h=>h) hv
 rw[hf]at h2
 obtain⟨_,h3⟩:=h2
 exact⟨H',by rw[<-h3.c_eq];exact h1⟩
theorem checks_all(us:List U)(h:TyPs [.struct [.int .i64, .sl [.int .i64], .sl [.int .i64, .int .i64, .int .i64, .int .i64], .sl [.sl [.int .i64]]]] us):
  Vm.yrun yExtC yprog md 6 0 (us.map .val) []=some (.val (.c (.bool true))):=by
 obtain⟨u1,_,rfl,h1,rfl⟩:=h
 obtain⟨a,b1,l,b2,es,b3,xs,rfl⟩:=w1s h1
 exact Z1v (M:=MC) J1I k1w
end Go.Proofs.Ytglkhoamnmiolaa.R
