/- - -/
import Derived.Test.YtglkhoamnmiolaaKq
set_option linter.all false
namespace Go.Proofs.Ytglkhoamnmiolaa.R
open Go Go.Proofs.Ytglkhoamnmiolaa.Vm
section
variable{M:YM}{a b:Int}{b1 b2 b3 b4 b5 b6 b7 b8:Bool}{l l':List Int}{es es':List E4}{xs xs':List (Bool×List Int)}{w0 w1:List Int}
def HasB(M:YM):Prop:= ∀us,M.ext 16 us=pickZ AccP us/\M.ext 33 us=pickZ OneP us
theorem W0b(hM:HasB M)(e1:aErr a l es xs=0)(e2:wErr w0 w1=0)(e3:l.length<=1000000)(e4: ∀x∈xs,x.2.length<=1000000):
  ∃v:Bool,y16 M a (uIs b1 l) (uEs b2 es) (uLs b3 xs) (uIs b4 w0) (uIs b5 w1)=some (.val (uB v))/\(v=true↔Acc (auL l es xs) (wrd w0 w1)):=by
 have hv: ∃v:Bool,v=true↔Acc (auL l es xs) (wrd w0 w1):=by
  by_cases h:Acc (auL l es xs) (wrd w0 w1)
  ·exact⟨true,by simp[h]⟩
  ·exact⟨false,by simp[h]⟩
 obtain⟨v,hv⟩:=hv
 refine⟨v, ?_,hv⟩
 unfold y16 yrunM
 rw[w0w]
 have:Vm.ystepR M.ext yprog md (Vm.yrun M.ext yprog md) 16 0 [.val (.st [.c (.int .i64 a),uIs b1 l,uEs b2 es,uLs b3 xs]), .val (.st [uIs b4 w0,uIs b5 w1])] []=M.ext 16 [.st [uI a,uIs b1 l,uEs b2 es,uLs b3 xs], .st [uIs b4 w0,uIs b5 w1]]:=by kernel_rfl
 rw[this,(hM _).1]
 exact Q0o j1p ⟨a,b1,l,b2,es,b3,xs,b4,w0,b5,w1,v,rfl,e1,e2,e3,e4,hv,rfl⟩
theorem w1W(hM:HasB M)(e1:l.length<=1000000)(e2:es.length<=1000000)(e3:xs.length<=1000000)(e4: ∀x∈xs,x.2.length<=1000000):y33 M a (uIs b1 l) (uEs b2 es) (uLs b3 xs)=some (.tup (oneR a l es xs)):=by
 unfold y33 yrunM
 rw[w0w]
 have:Vm.ystepR M.ext yprog md (Vm.yrun M.ext yprog md) 33 0 [.val (.st [.c (.int .i64 a),uIs b1 l,uEs b2 es,uLs b3 xs])] []=M.ext 33 [.st [uI a,uIs b1 l,uEs b2 es,uLs b3 xs]]:=by kernel_rfl
 rw[this,(hM _).2]
 exact Q0o j1r ⟨a,b1,l,b2,es,b3,xs,rfl,e1,e2,e3,e4,rfl⟩
theorem k0S:y28 M 0 (.sl false []) (.sl false []) (.sl false [])=some (.val (.c (.bool true))):=by
 have e:Sx.fz (⟨false,0,[]⟩:Sx)= .sl false []:=rfl
 have h31:y31 M (.sl false []) (.sl false [])=some (.val (.c (.bool true))):=by
  rw[w1d,j1b]
  simp[U.len,U.asL]
 have h67:y67 M (.sl false []) (.sl false [])=some (.val (.c (.bool true))):=by
  rw[w1r,j1f]
  simp[U.len,U.asL]
 rw[w1b,e,w1c,h31,h67,j1a]
 simp[U.len,U.asL]
theorem z1K(hl:l.length<=300)(he:es.length<=6000)(hn:xs.length<=8)(hx: ∀x∈xs,x.2.length<=1000000)(h0:aErr a l es xs=0):y34 M a (uIs b1 l) (uEs b2 es) (uLs b3 xs)=some (.val (.c (.bool true))):=by
 have:=Y0M (M:=M) (a:=a) (b1:=b1) (b2:=b2) (b3:=b3) (l:=l) (es:=es) (xs:=xs) (by omega) (by omega) (by omega) hx
 rw[w1e]
 have e1: ¬((300:Int)<(l.length:Int)):=by omega
 have e2: ¬((6000:Int)<(es.length:Int)):=by omega
 have e3: ¬((8:Int)<(xs.length:Int)):=by omega
 simp[e1,e2,e3,this,h0]
theorem z0n(a:Int)(u1 u2 u3:U): ∃f,U.exact (.st [uI a,u1,u2,u3]) ks2=some f/\f 0=uI a/\f 1=u1/\f 2=u2/\f 3=u3:=⟨_,rfl,rfl,rfl,rfl,rfl⟩
def errB(a b:Int)(l l':List Int)(es es':List E4)(xs xs':List (Bool×List Int)):Int:=if aErr a l es xs=0 then aErr b l' es' xs' else aErr a l es xs
theorem w1X(hl:l.length<=1000000)(he:es.length<=1000000)(hn:xs.length<=1000000)(hx: ∀x∈xs,x.2.length<=1000000)(hl':l'.length<=1000000)(he':es'.length<=1000000)(hn':xs'.length<=1000000)(hx': ∀x∈xs',x.2.length<=1000000):
  (errB a b l l' es es' xs xs'≠0/\y32 M a (uIs b1 l) (uEs b2 es) (uLs b3 xs) b (uIs b4 l') (uEs b5 es') (uLs b6 xs')=some (.tup [zeroA,uI (errB a b l l' es es' xs xs')]))\/
  (aErr a l es xs=0/\aErr b l' es' xs'=0/\ ∃f1 f2 f3 zs,zs.map (·.2)=(xs.map fun x=>bothA b.toNat x.2)++(xs'.map fun x=>bothB a.toNat b.toNat x.2)/\
   y32 M a (uIs b1 l) (uEs b2 es) (uLs b3 xs) b (uIs b4 l') (uEs b5 es') (uLs b6 xs')=some (.tup (if 300<a*b\/6000<(bothE b es es').length\/8<zs.length then [zeroA,uI 2]else [.st [uI (a*b),uIs f1 (bothL b l l'),uEs f2 (bothE b es es'),uLs f3 zs],uI 0]))):=by
 have q1:=Y0N (M:=M) (a:=a) (b1:=b1) (b2:=b2) (b3:=b3) hl he hn hx
 have q2:=Y0N (M:=M) (a:=b) (b1:=b4) (b2:=b5) (b3:=b6) hl' he' hn' hx'
 have q3:=Z0z (M:=M) [aErr a l es xs,aErr b l' es' xs'] (by simp)
 have q4:firstErr [aErr a l es xs,aErr b l' es' xs']=errB a b l l' es es' xs xs':=by
  unfold errB firstErr
  by_cases h:aErr a l es xs=0
  ·by_cases h2:aErr b l' es' xs'=0<;>simp[h,h2,firstErr]
  ·simp[h]
 simp only[List.map_cons,List.map_nil]at q3
 have q5:y52 M (Sx.fz (⟨true,1,[.c (.int .i64 (aErr a l es xs)), .c (.int .i64 (aErr b l' es' xs'))]⟩:Sx))=some (.val (uI (errB a b l l' es es' xs xs'))):=by rw[<-q4];exact q3
 by_cases h0:errB a b l l' es es' xs xs'=0
 rotate_left
 ·refine .inl ⟨h0, ?_⟩
  rw[X0y]
  simp only[q1,q2,oS,toU_val,asI_c,q5,h0,dF,Bool.not_false,iT]
  rfl
 have e1:aErr a l es xs=0:=by
  unfold errB at h0
  by_cases h:aErr a l es xs=0
  ·exact h
  ·rw[if_neg h]at h0;exact h0
 have e2:aErr b l' es' xs'=0:=by unfold errB at h0;rw[if_pos e1]at h0;exact h0
 obtain⟨k1,k2,k3,k4,k5,k6⟩:=aErr_zero.1 e1
 obtain⟨m1,m2,m3,m4,m5,m6⟩:=aErr_zero.1 e2
 simp only[btw,dE]at k1 m1
 obtain⟨n,rfl⟩:=iZ k1.1
 obtain⟨m,rfl⟩:=iZ m1.1
 have hN:n*m<=300*300:=Nat.mul_le_mul (by omega) (by omega)
 have hw:IntKind.wrap .i64 ((n:Int)*(m:Int))=(n:Int)*(m:Int):=by rw[<-Int.natCast_mul,q0h (by omega) (by omega)]
 have r:=q0Z (show n<=300 by omega) k5
 have r':=q0Z (show m<=300 by omega) m5
 have up: ∀{c:Nat} {z:List Int},c<=300->rng c z->rng 301 z:=fun hc h=>⟨h.1,fun s hs=>(h.2 s hs).imp fun i hi=>⟨hi.1,by omega⟩⟩
 refine .inr ⟨e1,e2, ?_⟩
 obtain⟨s1,p1,p2⟩:=q1R (M:=M) (a:=n) (b:=m) (by omega) (by omega) r r' (b1:=b1) (b2:=b2) (b4:=b4) (b5:=b5) (b6:=b6) (es:=es) (es':=es') (xs':=xs') (x40:=0) (o0:=(n:Int)*(m:Int)) (t1:=⟨false,0,[]⟩) (t2:=⟨false,0,[]⟩) (t3:=⟨false,0,[]⟩) (o2:=⟨false,0,[]⟩) (o3:=⟨false,0,[]⟩) (u2:=uEs b2 es) (u3:=uLs b3 xs) rfl l.length 0 [] ⟨false,0,[]⟩ (by omega) (by have:=r.1;simp;omega) .nil
 obtain⟨s2,p3,p4⟩:=q1T (M:=M) (a:=n) (b:=m) (by omega) (by omega) k2 (fun e he=>(j0B (List.all_eq_true.1 k4 e he)).1) m2 (fun e he=>(j0B (List.all_eq_true.1 m4 e he)).1) (b2:=b2) (b3:=b3) (b4:=b4) (b5:=b5) (b6:=b6) (xs:=xs) (l':=l') (xs':=xs') (x40:=0) (o0:=(n:Int)*(m:Int)) (t1:=⟨false,0,[]⟩) (t2:=⟨false,0,[]⟩) (t3:=⟨false,0,[]⟩) (o1:=s1) (o3:=⟨false,0,[]⟩) (u1:=uIs b1 l) (u3:=uLs b3 xs) rfl es.length 0 [] ⟨false,0,[]⟩ (by omega) (by simp;omega) .nil
 obtain⟨s3,zs,p5,p6,p7⟩:=q1W (M:=M) (a:=n) (b:=m) (by omega) k3 (fun x hx=>up (by omega) (q0Z (show n<=300 by omega) (k6 x hx))) (b3:=b3) (b4:=b4) (b5:=b5) (b6:=b6) (l':=l') (es':=es') (xs':=xs') (x40:=0) (o0:=(n:Int)*(m:Int)) (t1:=⟨false,0,[]⟩) (t2:=⟨false,0,[]⟩) (t3:=⟨false,0,[]⟩) (o1:=s1) (o2:=s2) (u1:=uIs b1 l) (u2:=uEs b2 es) (u3:=uLs b3 xs) xs.length 0 [] ⟨false,0,[]⟩ (by omega) (by simp;omega) .nil
 rw[List.nil_append,List.drop_zero]at p2 p4
 rw[List.nil_append]at p6
 rw[List.drop_zero]at p7
 have hzl:zs.length=xs.length:=by have:=congrArg List.length p7;simpa using this
 obtain⟨f1,f2,f3,zs',p8,p9⟩:=q1X (M:=M) (a:=n) (b:=m) (by omega) (by omega) m3 (fun x hx=>up (by omega) (q0Z (show m<=300 by omega) (m6 x hx))) (b4:=b4) (b5:=b5) (b6:=b6) (l':=l') (es':=es') (x40:=0) (o0:=(n:Int)*(m:Int)) (t1:=⟨false,0,[]⟩) (t2:=⟨false,0,[]⟩) (t3:=⟨false,0,[]⟩) (u1:=uIs b1 l) (u2:=uEs b2 es) (u3:=uLs b3 xs) p2 p4 xs'.length 0 zs s3 (by omega) (by omega) p6
 rw[List.drop_zero]at p9
 rw[show((0:Nat):Int)=0 from rfl]at p1 p3 p5 p8
 have main:y32_1 M (n:Int) (uIs b1 l) (uEs b2 es) (uLs b3 xs) (bU m b4 b5 b6 l' es' xs') 0 (pU m b4 b5 b6 l' es' xs') ((n:Int)*(m:Int)) (uIs b1 l) (l.length:Int) 0 ⟨false,0,[]⟩ ⟨false,0,[]⟩ ⟨false,0,[]⟩ ⟨false,0,[]⟩ ⟨false,0,[]⟩ ⟨false,0,[]⟩=_:=p1.trans (p3.trans (p5.trans p8))
 by_cases h3:300<(n:Int)*(m:Int)
 ·refine⟨f1,f2,f3,zs++zs',by rw[List.map_append,p7,p9];rfl, ?_⟩
  rw[X0y]
  simp only[q1,q2,oS,toU_val,asI_c,q5,h0,dY,Bool.not_true,bF,iF,hw,h3,iT,true_or]
  rfl
 ·refine⟨f1,f2,f3,zs++zs',by rw[List.map_append,p7,p9];rfl, ?_⟩
  refine Eq.trans ?_ main
  rw[X0y]
  simp only[q1,q2,oS,toU_val,asI_c,q5,h0,dY,Bool.not_true,bF,iF,hw,h3,dF,len_uIs]
theorem Y0O(h:few a l es xs=true):es.length<=60/\l.length<=40/\xs.length<=12/\ ∀x∈xs,x.2.length<=40:=by
 unfold few at h
 simp only[bA,dE,List.all_eq_true]at h
 exact⟨h.1.1.1.2,h.1.1.2,h.1.2,h.2⟩
theorem w1Y(h:wErr w0 w1=0)(i:Nat):wrd w0 w1 i<4096:=by
 obtain⟨h1,h2,_⟩:=Y0m h
 have:=Y0l (k:=i) h1 h2
 simp only[btw,dE]at this
 unfold wrd
 omega
theorem w0q{n:Int}(h:aErr n l es xs=0):l.length<=300/\ ∀x∈xs,x.2.length<=1000000:=by
 obtain⟨k1,_,_,_,k5,k6⟩:=aErr_zero.1 h
 simp only[btw,dE]at k1
 obtain⟨m,rfl⟩:=iZ k1.1
 exact⟨(q0Z (by omega) k5).1,fun x hx=>by have:=(q0Z (show m<=300 by omega) (k6 x hx)).1;omega⟩
variable(hM:HasB M)
include hM
theorem k1y(hl:l.length<=1000)(he:es.length<=60)(hn:xs.length<=12)(hx: ∀x∈xs,x.2.length<=40)(hl':l'.length<=1000)(he':es'.length<=60)(hn':xs'.length<=12)(hx': ∀x∈xs',x.2.length<=40)(hw:w0.length+w1.length<=1000000)(h0:aErr a l es xs=0)
  {xb yb:List U} {xa ea ya fa:Int} {x1 x2 x3 u1 u2 u3:U}
  (hB:(aErr b l' es' xs'≠0/\[.st [uI xa,x1,x2,x3],uI ea]=[zeroA,uI (aErr b l' es' xs')])\/
   (aErr b l' es' xs'=0/\ ∃f1 f2 f3 zs,zs.map (·.2)=(xs.map fun x=>bothA b.toNat x.2)++(xs'.map fun x=>bothB a.toNat b.toNat x.2)/\
    [.st [uI xa,x1,x2,x3],uI ea]=(if 300<a*b\/6000<(bothE b es es').length\/8<zs.length then [zeroA,uI 2]else [.st [uI (a*b),uIs f1 (bothL b l l'),uEs f2 (bothE b es es'),uLs f3 zs],uI 0])))
  (hO:[.st [uI ya,u1,u2,u3],uI fa]=if 300<a*(xs.length+1:Nat)\/6000<(oneEs xs es).length then [zeroA,uI 2]else [oneU a l es xs,uI 0]):
  y7_1 M a (uIs b1 l) (uEs b2 es) (uLs b3 xs) b (uIs b4 l') (uEs b5 es') (uLs b6 xs') (uIs b7 w0) (uIs b8 w1) xa x1 x2 x3 ea ya u1 u2 u3 fa=some (.val (.c (.bool true))):=by
 have hxm: ∀x∈xs,x.2.length<=1000000:=fun x hx1=>by have:=hx x hx1;omega
 have hxm': ∀x∈xs',x.2.length<=1000000:=fun x hx1=>by have:=hx' x hx1;omega
 have q12:=Y0M (M:=M) (a:=b) (b1:=b4) (b2:=b5) (b3:=b6) (l:=l') (es:=es') (xs:=xs') (by omega) (by omega) (by omega) hxm'
 have q15:=w1A (M:=M) (b1:=b7) (b2:=b8) (l:=w0) (r:=w1) hw
 rw[z1X]
 simp only[q12,oS,toU_val,asI_c]
 rcases hB with⟨hb,hB⟩ |⟨hb,f1,f2,f3,zs,hz,hB⟩
 ·
  simp only[List.cons.injEq,and_true,U.st.injEq,zeroA]at hB
  obtain⟨⟨e1,rfl,rfl,rfl⟩,e2⟩:=hB
  have:=q0G e1;subst this
  have:=q0G e2;subst this
  simp only[hb,dF,Bool.not_false,iT,dY,k0S,oS,toU_val,asB_c]
 ·simp only[hb,dY,Bool.not_true,bF,iF]
  obtain⟨k1,k2,k3,k4,k5,k6⟩:=aErr_zero.1 h0
  obtain⟨m1,m2,m3,m4,m5,m6⟩:=aErr_zero.1 hb
  simp only[btw,dE]at k1 m1
  obtain⟨n,rfl⟩:=iZ k1.1
  obtain⟨m,rfl⟩:=iZ m1.1
  rw[iN,iN]at hz
  have hN:n*m<=300*300:=Nat.mul_le_mul (by omega) (by omega)
  have hw1:IntKind.wrap .i64 ((n:Int)*(m:Int))=(n:Int)*(m:Int):=by rw[<-Int.natCast_mul,q0h (by omega) (by omega)]
  have hzl:zs.length=xs.length+xs'.length:=by have:=congrArg List.length hz;simpa using this
  by_cases hbig:300<(n:Int)*(m:Int)\/6000<(bothE (m:Int) es es').length\/8<zs.length
  ·
   rw[if_pos hbig]at hB
   simp only[List.cons.injEq,and_true,U.st.injEq,zeroA]at hB
   obtain⟨⟨e1,rfl,rfl,rfl⟩,e2⟩:=hB
   have:=q0G e1;subst this
   have:=q0G e2;subst this
   have hw2:IntKind.wrap .i64 (((xs.length:Nat):Int)+((xs'.length:Nat):Int))=((xs.length+xs'.length:Nat):Int):=by rw[q0h (by omega) (by omega)];simp
   simp only[dY,iT,hw1,len_uEs,len_uLs,oS,hw2,k0S,toU_val,asB_c]
   by_cases c1:300<(n:Int)*(m:Int)
   ·simp[c1]
   ·by_cases c2:(40:Int)<(es.length:Int)
    ·simp[c1,c2]
    ·by_cases c3:(40:Int)<(es'.length:Int)
     ·simp[c1,c2,c3]
     ·have c4:(8:Int)<((xs.length+xs'.length:Nat):Int):=by
       have h1:=X0V (b:=m) (es:=es) (es':=es')
       have h2:es.length*es'.length<=40*40:=Nat.mul_le_mul (by omega) (by omega)
       rcases hbig with h |h |h
       ·exact absurd h c1
       ·omega
       ·omega
      rw[show((xs.length:Nat):Int)+((xs'.length:Nat):Int)=((xs.length+xs'.length:Nat):Int) by simp]at hw2
      simp only[c1,c2,c3,dF,iT,c4,dY,oS,bF,iF]
  ·rw[if_neg hbig]at hB
   simp only[List.cons.injEq,and_true,U.st.injEq]at hB
   obtain⟨⟨e1,rfl,rfl,rfl⟩,e2⟩:=hB
   have:=q0G e1;subst this
   have:=q0G e2;subst this
   have g1:n*m<=300:=by have: ¬300<(n:Int)*(m:Int):=fun h=>hbig (.inl h);rw[<-Int.natCast_mul]at this;omega
   have g2:(bothE (m:Int) es es').length<=6000:=Nat.le_of_not_lt fun h=>hbig (.inr (.inl h))
   have g3:zs.length<=8:=Nat.le_of_not_lt fun h=>hbig (.inr (.inr h))
   obtain⟨ok1,ok2⟩:=k1i (by omega) (by omega) h0 hb g1 g2 g3 hz
   rw[Int.natCast_mul]at ok1
   have q34:=z1K (M:=M) (b1:=f1) (b2:=f2) (b3:=f3) ok2 g2 g3 (w0q ok1).2 ok1
   simp only[show¬((0:Int)=2) by omega,dF,bF,iF,dY,Bool.not_true,iT,q34,oS,toU_val,asB_c,q15,asI_c]
   by_cases hwe:wErr w0 w1=0
   rotate_left
   ·simp only[hwe,dF,Bool.not_false,iT]
   simp only[hwe,dY,Bool.not_true,bF,iF]
   obtain⟨va,a1,a2⟩:=W0b (M:=M) (b1:=b1) (b2:=b2) (b3:=b3) (b4:=b7) (b5:=b8) hM h0 hwe (by omega) hxm
   obtain⟨vb,a3,a4⟩:=W0b (M:=M) (b1:=b4) (b2:=b5) (b3:=b6) (b4:=b7) (b5:=b8) hM hb hwe (by omega) hxm'
   obtain⟨vx,a5,a6⟩:=W0b (M:=M) (b1:=f1) (b2:=f2) (b3:=f3) (b4:=b7) (b5:=b8) hM ok1 hwe (by have:=(w0q ok1).1;omega) (w0q ok1).2
   have hboth:=j1I (by omega) (by omega) h0 hb hz (w1Y hwe)
   have hvx:vx=(va&&vb):=by rw[Bool.eq_iff_iff,bA,a6,a2,a4,hboth]
   have hq:(if va=true then(y16 M (m:Int) (uIs b4 l') (uEs b5 es') (uLs b6 xs') (uIs b7 w0) (uIs b8 w1)).bind fun r32=>r32.toU.bind fun u33=>u33.asB.bind fun b34=>some b34 else some va)=some (va&&vb):=by
    cases va<;>simp[a3]
   simp only[a1,a5,oS,toU_val,asB_c,hq,hvx,beq_self_eq_true]
   by_cases hf:fa=0
   ·subst hf
    by_cases hbig1:300<(n:Int)*((xs.length+1:Nat):Int)\/6000<(oneEs xs es).length
    ·rw[if_pos hbig1]at hO
     simp only[List.cons.injEq,and_true]at hO
     have:=q0G hO.2;omega
    ·rw[if_neg hbig1]at hO
     unfold oneU at hO
     simp only[List.cons.injEq,and_true,U.st.injEq]at hO
     obtain⟨e1,rfl,rfl,rfl⟩:=hO
     have:=q0G e1;subst this
     have g4:n*(xs.length+1)<=300:=by have: ¬300<(n:Int)*((xs.length+1:Nat):Int):=fun h=>hbig1 (.inl h);rw[<-Int.natCast_mul]at this;omega
     have g5:(oneEs xs es).length<=6000:=Nat.le_of_not_lt fun h=>hbig1 (.inr h)
     obtain⟨ok3,ok4⟩:=z1E (by omega) h0 g4 g5
     rw[Int.natCast_mul]at ok3
     obtain⟨vo,a7,a8⟩:=W0b (M:=M) (b1:= !(oneL xs.length l).isEmpty) (b2:= !(oneEs xs es).isEmpty) (b3:=true) (b4:=b7) (b5:=b8) hM ok3 hwe (by omega) (w0q ok3).2
     have hone:=k1m (w:=wrd w0 w1) (by omega) h0
     have hvo:vo=va:=by rw[Bool.eq_iff_iff,a8,a2,hone]
     rw[iN]
     simp only[show(true !=false)=true from rfl,iT,dY,Bool.not_true,a7,oS,toU_val,asB_c,hvo,beq_self_eq_true]
   ·simp[hf]
omit hM in
theorem k1z:accL (cp xs)=accL xs:=by
 funext k t
 unfold accL
 have e:((cp xs).getD k (false,[])).2=(xs.getD k (false,[])).2:=by
  rw[lG,lG,cp,List.getElem?_map]
  cases xs[k]? <;>rfl
 rw[e]
omit hM in
theorem k1A:oneR a l es (cp xs)=oneR a l es xs:=by
 have h1:oneEs (cp xs) es=oneEs xs es:=by
  unfold oneEs oneE1
  rw[k1z,w0Q]
 unfold oneR oneU
 rw[Q0B,h1,w0Q]
omit hM in
theorem Y0P{n:Nat}(h: ∀x∈xs,x.2.length<=n): ∀x∈cp xs,x.2.length<=n:=fun x hx=>by
 obtain⟨y,hy,rfl⟩:=List.mem_map.1 hx
 exact h y hy
omit hM in
omit hM in
theorem k1B: ∃ya v1 v2 v3 fa,oneR a l es xs=[.st [uI ya,v1,v2,v3],uI fa]:=by
 unfold oneR oneU zeroA
 split
 ·split<;>exact⟨_,_,_,_,_,rfl⟩
 ·exact⟨_,_,_,_,_,rfl⟩
theorem Q1J(h8:y8 M=some (.val (.c (.bool true))))(hws:w0.length+w1.length<=2 ^ 50):y7 M a (uIs b1 l) (uEs b2 es) (uLs b3 xs) b (uIs b4 l') (uEs b5 es') (uLs b6 xs') (uIs b7 w0) (uIs b8 w1)=some (.val (.c (.bool true))):=by
 have q9:=w1P (M:=M) (a:=a) (b1:=b1) (b2:=b2) (b3:=b3) (l:=l) (es:=es) (xs:=xs)
 have q9':=w1P (M:=M) (a:=b) (b1:=b4) (b2:=b5) (b3:=b6) (l:=l') (es:=es') (xs:=xs')
 rw[Q1B]
 simp only[h8,oS,toU_val,asB_c,Bool.not_true,bF,iF,q9]
 cases f1:few a l es xs with
 |false=>simp
 |true=>
  simp only[Bool.not_true,iT,q9',oS,toU_val,asB_c]
  cases f2:few b l' es' xs' with
  |false=>simp
  |true=>
   obtain⟨n1,n2,n3,n4⟩:=Y0O f1
   obtain⟨m1,m2,m3,m4⟩:=Y0O f2
   have hwr:IntKind.wrap .i64 (((w0.length:Nat):Int)+((w1.length:Nat):Int))=((w0.length+w1.length:Nat):Int):=by rw[q0h (by omega) (by omega)];simp
   simp only[Bool.not_true,iT,len_uIs,oS,hwr]
   by_cases hw8:8<((w0.length+w1.length:Nat):Int)
   ·simp only[hw8,dY,iT]
   simp only[hw8,dF,bF,iF]
   have nx: ∀x∈xs,x.2.length<=1000000:=fun x hx=>by have:=n4 x hx;omega
   have mx: ∀x∈xs',x.2.length<=1000000:=fun x hx=>by have:=m4 x hx;omega
   obtain⟨c1,o1⟩:=z1t (M:=M) (a:=a) (b1:=b1) (b2:=b2) (b3:=b3) (l:=l) (es:=es) (xs:=xs) (by omega) (by omega) (by omega) nx
   obtain⟨c2,o2⟩:=z1t (M:=M) (a:=b) (b1:=b4) (b2:=b5) (b3:=b6) (l:=l') (es:=es') (xs:=xs') (by omega) (by omega) (by omega) mx
   obtain⟨g1,e1,e10,e11,e12,e13⟩:=z0n a (uIs true l) (uEs true es) (uLs c1 (cp xs))
   obtain⟨g2,e2,e20,e21,e22,e23⟩:=z0n b (uIs true l') (uEs true es') (uLs c2 (cp xs'))
   have q12:=Y0M (M:=M) (a:=a) (b1:=b1) (b2:=b2) (b3:=b3) (l:=l) (es:=es) (xs:=xs) (by omega) (by omega) (by omega) nx
   have q33:=w1W (M:=M) (a:=a) (b1:=true) (b2:=true) (b3:=c1) (l:=l) (es:=es) (xs:=cp xs) hM (by omega) (by omega) (by rw[w0Q];omega) (Y0P nx)
   rw[k1A]at q33
   obtain⟨ya,v1,v2,v3,fa,hO⟩:=k1B (a:=a) (l:=l) (es:=es) (xs:=xs)
   rw[hO]at q33
   obtain⟨g3,e3,e30,e31,e32,e33⟩:=z0n ya v1 v2 v3
   have hB: ∃xa x1 x2 x3 ea,y32 M a (uIs true l) (uEs true es) (uLs c1 (cp xs)) b (uIs true l') (uEs true es') (uLs c2 (cp xs'))=some (.tup [.st [uI xa,x1,x2,x3],uI ea])/\
     ((
      aErr a l es xs≠0/\[.st [uI xa,x1,x2,x3],uI ea]=[zeroA,uI (aErr a l es xs)])\/(aErr a l es xs=0/\
      ((aErr b l' es' xs'≠0/\[.st [uI xa,x1,x2,x3],uI ea]=[zeroA,uI (aErr b l' es' xs')])\/
      (aErr b l' es' xs'=0/\ ∃f1 f2 f3 zs,zs.map (·.2)=(xs.map fun x=>bothA b.toNat x.2)++(xs'.map fun x=>bothB a.toNat b.toNat x.2)/\
       [.st [uI xa,x1,x2,x3],uI ea]=(if 300<a*b\/6000<(bothE b es es').length\/8<zs.length then [zeroA,uI 2]else [.st [uI (a*b),uIs f1 (bothL b l l'),uEs f2 (bothE b es es'),uLs f3 zs],uI 0]))))):=by
    rcases w1X (M:=M) (a:=a) (b:=b) (b1:=true) (b2:=true) (b3:=c1) (b4:=true) (b5:=true) (b6:=c2) (l:=l) (es:=es) (xs:=cp xs) (l':=l') (es':=es') (xs':=cp xs') (by omega) (by omega) (by rw[w0Q];omega) (Y0P nx) (by omega) (by omega) (by rw[w0Q];omega) (Y0P mx)with⟨h1,h2⟩ |⟨h1,h2,f1,f2,f3,zs,h3,h4⟩
    ·have he:errB a b l l' es es' (cp xs) (cp xs')=if aErr a l es xs=0 then aErr b l' es' xs' else aErr a l es xs:=by unfold errB;rw[Q0B,Q0B]
     rw[he]at h1 h2
     refine⟨0,_,_,_,_,h2, ?_⟩
     by_cases h0:aErr a l es xs=0
     ·rw[if_pos h0]at h1⊢
      exact .inr ⟨h0, .inl ⟨h1,rfl⟩⟩
     ·rw[if_neg h0]
      exact .inl ⟨h0,rfl⟩
    ·rw[Q0B]at h1 h2
     have hm:(cp xs).map (fun x=>bothA b.toNat x.2)=xs.map fun x=>bothA b.toNat x.2:=by simp[cp,Function.comp_def]
     have hm':(cp xs').map (fun x=>bothB a.toNat b.toNat x.2)=xs'.map fun x=>bothB a.toNat b.toNat x.2:=by simp[cp,Function.comp_def]
     rw[hm,hm']at h3
     by_cases hb:300<a*b\/6000<(bothE b es es').length\/8<zs.length
     ·rw[if_pos hb]at h4
      exact⟨0,_,_,_,2,h4, .inr ⟨h1, .inr ⟨h2,f1,f2,f3,zs,h3,by rw[if_pos hb];rfl⟩⟩⟩
     ·rw[if_neg hb]at h4
      exact⟨_,_,_,_,_,h4, .inr ⟨h1, .inr ⟨h2,f1,f2,f3,zs,h3,by rw[if_neg hb]⟩⟩⟩
   obtain⟨xa,x1,x2,x3,ea,q32,hB⟩:=hB
   obtain⟨g4,e4,e40,e41,e42,e43⟩:=z0n xa x1 x2 x3
   simp only[o1,o2,oS,toU_val,e1,e2,e10,e11,e12,e13,e20,e21,e22,e23,i_uI,q32,asTup_tup,List.getElem?_cons_zero,e4,e40,e41,e42,e43,List.getElem?_cons_succ,asI_c,q33,e3,e30,e31,e32,e33,q12]
   rcases hB with⟨ha,hB⟩ |⟨ha,hB⟩
   ·
    simp only[List.cons.injEq,and_true,U.st.injEq,zeroA]at hB
    obtain⟨⟨z1,rfl,rfl,rfl⟩,z2⟩:=hB
    have:=q0G z1;subst this
    have:=q0G z2;subst this
    unfold oneR at hO
    rw[if_neg ha]at hO
    simp only[List.cons.injEq,and_true,U.st.injEq,zeroA]at hO
    obtain⟨⟨z3,rfl,rfl,rfl⟩,z4⟩:=hO
    have:=q0G z3;subst this
    have:=q0G z4;subst this
    simp only[ha,dF,Bool.not_false,iT,dY,k0S,oS,toU_val,asB_c]
   ·have hO':[.st [uI ya,v1,v2,v3],uI fa]=if 300<a*(xs.length+1:Nat)\/6000<(oneEs xs es).length then [zeroA,uI 2]else [oneU a l es xs,uI 0]:=by
     rw[<-hO];unfold oneR;rw[if_pos ha]
    have q71:=k1y (M:=M) (a:=a) (b:=b) (b1:=b1) (b2:=b2) (b3:=b3) (b4:=b4) (b5:=b5) (b6:=b6) (b7:=b7) (b8:=b8) (l:=l) (l':=l') (es:=es) (es':=es') (xs:=xs) (xs':=xs') (w0:=w0) (w1:=w1) hM (by omega) n1 n3 n4 (by omega) m1 m3 m4 (by omega) ha (xb:=[]) (yb:=[]) hB hO'
    obtain⟨k1,k2,k3,k4,k5,k6⟩:=aErr_zero.1 ha
    simp only[btw,dE]at k1
    obtain⟨n,rfl⟩:=iZ k1.1
    have hN:n*(xs.length+1)<=300*9:=Nat.mul_le_mul (by omega) (by omega)
    simp only[ha,dY,Bool.not_true,bF,iF]
    by_cases hbig:300<(n:Int)*((xs.length+1:Nat):Int)\/6000<(oneEs xs es).length
    ·rw[if_pos hbig]at hO'
     simp only[List.cons.injEq,and_true,U.st.injEq,zeroA]at hO'
     obtain⟨⟨z3,rfl,rfl,rfl⟩,z4⟩:=hO'
     have:=q0G z3;subst this
     have:=q0G z4;subst this
     have w1':IntKind.wrap .i64 (((xs.length:Nat):Int)+1)=((xs.length+1:Nat):Int):=q0b (by omega)
     have w2':IntKind.wrap .i64 ((n:Int)*((xs.length+1:Nat):Int))=(n:Int)*((xs.length+1:Nat):Int):=by rw[<-Int.natCast_mul,q0h (by omega) (by omega)]
     simp only[dY,iT,len_uLs,oS,w1',w2',len_uEs]
     have hq:(if decide ((n:Int)*((xs.length+1:Nat):Int)<=300)=true then some (decide (((es.length:Nat):Int)<=40))else some (decide ((n:Int)*((xs.length+1:Nat):Int)<=300)))=some false:=by
      by_cases c:(n:Int)*((xs.length+1:Nat):Int)<=300
      ·have hE:=J0d xs es
       have:40<es.length:=by
        rcases hbig with h |h
        ·omega
        ·refine Nat.lt_of_not_le fun h40=> ?_
         have:es.length*(xs.length+1)<=40*9:=Nat.mul_le_mul h40 (by omega)
         omega
       rw[if_pos (by simpa using c)]
       simp;omega
      ·rw[if_neg (by simpa using c),decide_eq_false c]
     rw[hq]
     simp only[oS,iT,k0S,toU_val,asB_c,Bool.not_true,bF,iF]
     exact q71
    ·rw[if_neg hbig]at hO'
     unfold oneU at hO'
     simp only[List.cons.injEq,and_true,U.st.injEq]at hO'
     obtain⟨⟨z3,rfl,rfl,rfl⟩,z4⟩:=hO'
     have:=q0G z3;subst this
     have:=q0G z4;subst this
     have g4':n*(xs.length+1)<=300:=by have: ¬300<(n:Int)*((xs.length+1:Nat):Int):=fun h=>hbig (.inl h);rw[<-Int.natCast_mul]at this;omega
     have g5:(oneEs xs es).length<=6000:=Nat.le_of_not_lt fun h=>hbig (.inr h)
     obtain⟨ok3,ok4⟩:=z1E (by omega) ha g4' g5
     rw[Int.natCast_mul]at ok3
     rw[iN]at q71⊢
     have q34:=z1K (M:=M) (b1:= !(oneL xs.length l).isEmpty) (b2:= !(oneEs xs es).isEmpty) (b3:=true) ok4 g5 (by simp) (w0q ok3).2 ok3
     simp only[show¬((0:Int)=2) by omega,dF,bF,iF,dY,Bool.not_true,iT,q34,oS,toU_val,asB_c,len_uLs,List.length_cons,List.length_nil,Nat.zero_add,show(((1:Nat):Int)=1)from rfl]
     exact q71
end
end Go.Proofs.Ytglkhoamnmiolaa.R
