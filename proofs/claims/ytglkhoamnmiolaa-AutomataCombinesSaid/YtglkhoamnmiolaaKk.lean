/- - -/
import Derived.Test.YtglkhoamnmiolaaKj
set_option linter.all false
namespace Go.Proofs.Ytglkhoamnmiolaa.R
open Go Go.Proofs.Ytglkhoamnmiolaa.Vm
theorem J0q(H:Heap)(w x y z:C):Heap.cellsOf (H.alloc (.cells 4 [w,x,y,z])) 4 (.slice H.next 0 1)=some [w,x,y,z]:=by
 simp[Heap.cellsOf,Heap.ldN,alloc_new]
noncomputable def rest5(M:Mach)(a_0:Int)(a_1 a_2 a_3:C)(x2_0:Int)(x2_1 x2_2 x2_3:C)(sets:Int)(levels vat:C)(out_0:Int)(out_1 out_2 out_3:C)(x_0 x_1 x_2 x_3 level met:Int)(x58:C)(x59 x60 x64 x65:Int)(H:Heap):Rs:=
 (C.asF vat).bind fun g7=>
 (mcall M g7.1 (g7.2.1.map .c++[(.c (.int .i64 x_0)),(.c (.int .i64 level))]++g7.2.2.map .c) H).bind fun q8=>
 (V.asC q8.1).bind fun c9=>
 (C.asI .i64 c9).bind fun n10=>
 (C.asF vat).bind fun g11=>
 (mcall M g11.1 (g11.2.1.map .c++[(.c (.int .i64 x_1)),(.c (.int .i64 met))]++g11.2.2.map .c) q8.2).bind fun q12=>
 (V.asC q12.1).bind fun c13=>
 (C.asI .i64 c13).bind fun n14=>
 let H15:=Heap.alloc q12.2 (.cells 4 [(.int .i64 n10),(.int .i64 n14),(.int .i64 x_2),(.int .i64 x_3)])
 (Heap.cellsOf H15 4 (.slice q12.2.next 0 1)).bind fun xs16=>
 (Heap.app M.lim H15 4 out_2 xs16 1).bind fun q17=>
 f33_3 M a_0 a_1 a_2 a_3 x2_0 x2_1 x2_2 x2_3 sets levels vat out_0 out_1 q17.1 out_3 x_0 x_1 x_2 x_3 x58 x59 x60 x64 (IntKind.wrap .i64 (x65+1)) q17.2
theorem Y0g(M:Mach)(a_0:Int)(a_1 a_2 a_3:C)(x2_0:Int)(x2_1 x2_2 x2_3:C)(sets:Int)(levels vat:C)(out_0:Int)(out_1 out_2 out_3:C)(x_0 x_1 x_2 x_3 level met:Int)(x58:C)(x59 x60 x64 x65:Int)(H:Heap):
  f33_5 M a_0 a_1 a_2 a_3 x2_0 x2_1 x2_2 x2_3 sets levels vat out_0 out_1 out_2 out_3 x_0 x_1 x_2 x_3 level met x58 x59 x60 x64 x65 H=
 (if(decide (met<sets))=true then
 (C.elem 1 a_3 met).bind fun q2=>
 (Heap.ld H q2.1 q2.2).bind fun c3=>
 (f56 M c3 x_1 H).bind fun q4=>
 (V.asC q4.1).bind fun c5=>
 (C.asB c5).bind fun b6=>
 some (b6,q4.2)
 else
 some (decide (met<sets),H)).bind fun q1=>
 (if q1.1=true then
 f33_5 M a_0 a_1 a_2 a_3 x2_0 x2_1 x2_2 x2_3 sets levels vat out_0 out_1 out_2 out_3 x_0 x_1 x_2 x_3 level (IntKind.wrap .i64 (met+1)) x58 x59 x60 x64 x65 q1.2
 else
 rest5 M a_0 a_1 a_2 a_3 x2_0 x2_1 x2_2 x2_3 sets levels vat out_0 out_1 out_2 out_3 x_0 x_1 x_2 x_3 level met x58 x59 x60 x64 x65 q1.2):=j1m ..
theorem W0F(xs:List (Bool×List Int))(e:E4)(es:List E4):(oneEs xs (e::es)).map uE=((List.range' 0 (xs.length+1)).map fun lv=>uE (oneE1 xs e lv))++(oneEs xs es).map uE:=by
 simp[oneEs,List.range_eq_range',Function.comp_def]
section
variable{lim:Nat}{M:YM}(hM:CallsY lim M.ext){H0:Heap}{F:Nat->Prop}{b a:Nat}{b1 b2 b3:Bool}{l:List Int}{es:List E4}{xs:List (Bool×List Int)}{c1 c2 c3:C}
variable(A:AV lim H0 F b a l es xs b1 b2 b3 c1 c2 c3)
include hM A
structure Kp (H0:Heap) (F:Nat->Prop) (b jl m m0:Nat) (G:Nat->Prop) (H H':Heap) (us:List U) (c':C):Prop where
 f:Fr1 H0 F b jl m m0 H' G
 o:OutR m0 H' G 4 us c'
 le:FLe H G H' G
 low: ∀i,i<m0->H'.get i=H.get i
 nx:H.next<=H'.next
omit hM A in
theorem Kp.trans{jl m m0:Nat}{G:Nat->Prop}{H H1 H2:Heap}{us us':List U}{c c':C}(h:Kp H0 F b jl m m0 G H H1 us c)(k:Kp H0 F b jl m m0 G H1 H2 us' c'):Kp H0 F b jl m m0 G H H2 us' c':=
 ⟨k.f,k.o,h.le.trans k.le,fun i hi=>(k.low i hi).trans (h.low i hi),nT h.nx k.nx⟩
omit hM A in
theorem Kp.step{jl m m0:Nat}{G:Nat->Prop}{H H1:Heap}{us:List U}{c:C}(f:Fr1 H0 F b jl m m0 H G)(hj:jl<m0)(o:OutR m0 H G 4 us c)(k:FrX none H G H1 G):Kp H0 F b jl m m0 G H H1 us c:=
 ⟨f.step hj k,o.fr k (fun i e=>by cases e) f.lt,k.le0 f.lt,fun i hi=>k.keep i (nL hi f.n0) (fun e=>by cases e),k.next⟩
theorem J0r{jl m0:Nat}(hj:jl<m0)(hbm:b<=m0)(hlm:lim<=m0){x20:Int}{x21 x22 x23 o1 o3:C}{o0 i:Int}{e:E4}{s t lv k:Nat}(hs:e.f=s)(hsa:s<a)(ht:e.t=t)(hta:t<a)(hlv:lv<=xs.length)(hk:k<=xs.length){H:Heap}{G:Nat->Prop}{us:List U}{c:C}(f:Fr1 H0 F b jl xs.length m0 H G)(o:OutR m0 H G 4 us c)(hus:us.length<=1000000):
  ∃H' c',rest5 (MH lim) (a:Int) c1 c2 c3 x20 x21 x22 x23 (xs.length:Int) (.ptr jl 0) (.func 71 [] [.ptr jl 0]) o0 o1 c o3 e.f e.t e.n e.v (lv:Int) (k:Int) c2 (es.length:Int) i ((xs.length+1:Nat):Int) (lv:Int) H=
    f33_3 (MH lim) (a:Int) c1 c2 c3 x20 x21 x22 x23 (xs.length:Int) (.ptr jl 0) (.func 71 [] [.ptr jl 0]) o0 o1 c' o3 e.f e.t e.n e.v c2 (es.length:Int) i ((xs.length+1:Nat):Int) ((lv+1:Nat):Int) H'/\
   Kp H0 F b jl xs.length m0 G H H' (us++[uE ⟨e.f*(xs.length+1:Nat)+lv,e.t*(xs.length+1:Nat)+(k:Int),e.n,e.v⟩]) c':=by
 have ha:=A.ha;have hx:=A.hx
 obtain⟨H1,g1,g2⟩:=Q0G (M:=M) (lv:=lv) (s:=s) (nT hlm f.n0) f.lt f.inj f.box (by omega) hx (by omega) hM
 have k1:=Kp.step f hj o g2
 obtain⟨H2,g3,g4⟩:=Q0G (M:=M) (lv:=k) (s:=t) (nT hlm k1.f.n0) k1.f.lt k1.f.inj k1.f.box (by omega) hx (by omega) hM
 have k2:=k1.trans (Kp.step k1.f hj k1.o g4)
 have k3:=k2.trans (Kp.step k2.f hj k2.o (K0O (.cells 4 [.int .i64 ((s*(xs.length+1)+lv:Nat):Int), .int .i64 ((t*(xs.length+1)+k:Nat):Int), .int .i64 e.n, .int .i64 e.v]) k2.f.lt))
 have ue:UC (H2.alloc (.cells 4 [.int .i64 ((s*(xs.length+1)+lv:Nat):Int), .int .i64 ((t*(xs.length+1)+k:Nat):Int), .int .i64 e.n, .int .i64 e.v])) G (uE ⟨((s*(xs.length+1)+lv:Nat):Int),((t*(xs.length+1)+k:Nat):Int),e.n,e.v⟩) [.int .i64 ((s*(xs.length+1)+lv:Nat):Int), .int .i64 ((t*(xs.length+1)+k:Nat):Int), .int .i64 e.n, .int .i64 e.v]:=
  ⟨_,_,rfl,rfl,⟨rfl,rfl⟩,_,_,rfl,rfl,⟨rfl,rfl⟩,_,_,rfl,rfl,⟨rfl,rfl⟩,_,_,rfl,rfl,⟨rfl,rfl⟩,rfl⟩
 obtain⟨c',H3,z1,z2,z3,z4,z5⟩:=k3.o.app (lim:=lim) hlm k3.f.lt k3.f.n0 ue rfl (by omega)
 refine⟨H3,c', ?_,k3.trans ⟨k3.f.app hj hbm z3 z5 z4, ?_,z4,z5,z3⟩⟩
 ·unfold rest5
  rw[hs,ht]
  simp only[C.asF,oS,g1,asC_c,asI_int,g3,J0q,z1,q0b (show lv<=1000000000 by omega)]
 ·have e1:e.f*((xs.length+1:Nat):Int)+(lv:Int)=((s*(xs.length+1)+lv:Nat):Int):=by rw[hs];simp
  have e2:e.t*((xs.length+1:Nat):Int)+(k:Int)=((t*(xs.length+1)+k:Nat):Int):=by rw[ht];simp
  rw[e1,e2]
  exact z2
theorem J0s{jl m0:Nat}(hj:jl<m0)(hbm:b<=m0)(hlm:lim<=m0){x20:Int}{x21 x22 x23 o1 o3:C}{o0 i:Int}{e:E4}{s t lv:Nat}(hs:e.f=s)(hsa:s<a)(ht:e.t=t)(hta:t<a)(hlv:lv<=xs.length){G:Nat->Prop}{us:List U}{c:C}(hus:us.length<=1000000):
  ∀(d k:Nat) (H:Heap),xs.length<k+d->k<=xs.length->Fr1 H0 F b jl xs.length m0 H G->OutR m0 H G 4 us c->
  ∃H' c',f33_5 (MH lim) (a:Int) c1 c2 c3 x20 x21 x22 x23 (xs.length:Int) (.ptr jl 0) (.func 71 [] [.ptr jl 0]) o0 o1 c o3 e.f e.t e.n e.v (lv:Int) (k:Int) c2 (es.length:Int) i ((xs.length+1:Nat):Int) (lv:Int) H=
    f33_3 (MH lim) (a:Int) c1 c2 c3 x20 x21 x22 x23 (xs.length:Int) (.ptr jl 0) (.func 71 [] [.ptr jl 0]) o0 o1 c' o3 e.f e.t e.n e.v c2 (es.length:Int) i ((xs.length+1:Nat):Int) ((lv+1:Nat):Int) H'/\
   Kp H0 F b jl xs.length m0 G H H' (us++[uE ⟨e.f*(xs.length+1:Nat)+lv,e.t*(xs.length+1:Nat)+(adv (accL xs) xs.length t d k:Nat),e.n,e.v⟩]) c':=by
 have ha:=A.ha;have hx:=A.hx
 intro d
 induction d with
 |zero=>intro k H h1 h2;omega
 |succ d ih=>
  intro k H h1 h2 f o
  rw[Y0g]
  by_cases hkm:k<xs.length
  ·have hg:xs[k]? =some xs[k]:=q0a hkm
   have hgd:xs.getD k (false,[])=xs[k]:=by rw[lG,hg];rfl
   obtain⟨i1,o1',cc,g1,g2,g3,g4⟩:=rdL (k0X A.u3 f.fr A.hF) hg
   have hcon:=Q1c (M:=M) (b:=xs[k].1) (l:=xs[k].2) e.t (A.hxs _ (lM hkm)).1
   obtain⟨v,H1,G1,q1,q2,q3⟩:=W0G hM (f:=56) (us:=[uIs xs[k].1 xs[k].2,uI e.t]) (vs:=[.c cc, .c (.int .i64 e.t)]) (F:=G) hcon rfl (nT hlm f.n0) f.lt (k1o ⟨rfl,g4.mono ⟨f.sub,fun _ _=>rfl⟩⟩ w0i)
   have:=q3.bool
   subst this
   have q56:f56 (MH lim) cc e.t H=some (.c (.bool (decide (e.t∈xs[k].2))),H1):=q1
   have kp:=Kp.step f hj o (Y0n q2 f.lt)
   simp only[show((k:Int)<((xs.length:Nat):Int)) by omega,dY,iT,g1,oS,g3,q56,asC_c,asB_bool]
   by_cases hin:e.t∈xs[k].2
   ·obtain⟨H',c',z1,z2⟩:=ih (k+1) H1 (by omega) (by omega) kp.f kp.o
    refine⟨H',c', ?_, ?_⟩
    ·simp only[hin,dY,iT,q0b (show k<=1000000000 by omega),z1]
    ·have:adv (accL xs) xs.length t (d+1) k=adv (accL xs) xs.length t d (k+1):=by
      rw[adv,if_pos ⟨hkm,by unfold accL;rw[hgd,<-ht];simpa using hin⟩]
     rw[this]
     exact kp.trans z2
   ·obtain⟨H',c',z1,z2⟩:=J0r hM A hj hbm hlm (x20:=x20) (x21:=x21) (x22:=x22) (x23:=x23) (o1:=o1) (o3:=o3) (o0:=o0) (i:=i) hs hsa ht hta hlv h2 kp.f kp.o hus
    refine⟨H',c', ?_, ?_⟩
    ·simp only[hin,dF,bF,iF,z1]
    ·have:adv (accL xs) xs.length t (d+1) k=k:=by
      rw[adv,if_neg (fun h=>hin (by have:=h.2;unfold accL at this;rw[hgd,<-ht]at this;simpa using this))]
     rw[this]
     exact kp.trans z2
  ·have hkm':k=xs.length:=by omega
   obtain⟨H',c',z1,z2⟩:=J0r hM A hj hbm hlm (x20:=x20) (x21:=x21) (x22:=x22) (x23:=x23) (o1:=o1) (o3:=o3) (o0:=o0) (i:=i) hs hsa ht hta hlv h2 f o hus
   refine⟨H',c', ?_, ?_⟩
   ·simp only[show¬((k:Int)<((xs.length:Nat):Int)) by omega,dF,bF,iF,oS,z1]
   ·have:adv (accL xs) xs.length t (d+1) k=k:=by rw[adv,if_neg (by omega)]
    rw[this];exact z2
theorem Y0h{jl m0:Nat}(hj:jl<m0)(hbm:b<=m0)(hlm:lim<=m0){x20:Int}{x21 x22 x23 o1 o3:C}{o0:Int}{i:Nat}{e:E4}(hi:i<=1000000)(hf: ∃s:Nat,e.f=s/\s<a)(hta: ∃t:Nat,e.t=t/\t<a){G:Nat->Prop}:
  ∀(d lv:Nat) (H:Heap) (us:List U) (c:C),lv+d=xs.length+1->us.length+d<=1000000->Fr1 H0 F b jl xs.length m0 H G->OutR m0 H G 4 us c->
  ∃H' c',f33_3 (MH lim) (a:Int) c1 c2 c3 x20 x21 x22 x23 (xs.length:Int) (.ptr jl 0) (.func 71 [] [.ptr jl 0]) o0 o1 c o3 e.f e.t e.n e.v c2 (es.length:Int) (i:Int) ((xs.length+1:Nat):Int) (lv:Int) H=
    f33_2 (MH lim) (a:Int) c1 c2 c3 x20 x21 x22 x23 (xs.length:Int) (.ptr jl 0) (.func 71 [] [.ptr jl 0]) o0 o1 c' o3 c2 (es.length:Int) ((i+1:Nat):Int) H'/\
   Kp H0 F b jl xs.length m0 G H H' (us++((List.range' lv d).map fun lv=>uE (oneE1 xs e lv))) c':=by
 have hx:=A.hx
 obtain⟨s,hs,hsa⟩:=hf
 obtain⟨t,ht,hta⟩:=hta
 have ett:e.t.toNat=t:=by omega
 intro d
 induction d with
 |zero=>
  intro lv H us c hl hu f o
  refine⟨H,c, ?_,f,by simpa using o, .refl _ _,fun _ _=>rfl,nR _⟩
  rw[K0w]
  simp only[show¬((lv:Int)<((xs.length+1:Nat):Int)) by omega,dF,bF,iF,q0b (show i<=1000000000 by omega)]
 |succ d ih=>
  intro lv H us c hl hu f o
  have hlv:lv<=xs.length:=by omega
  have hmx: ¬((if(1:Int)>(xs.length:Int)then(1:Int)else(xs.length:Int))=0):=by split<;>omega
  have key: ∃H1 c1',f33_3 (MH lim) (a:Int) c1 c2 c3 x20 x21 x22 x23 (xs.length:Int) (.ptr jl 0) (.func 71 [] [.ptr jl 0]) o0 o1 c o3 e.f e.t e.n e.v c2 (es.length:Int) (i:Int) ((xs.length+1:Nat):Int) (lv:Int) H=
    f33_3 (MH lim) (a:Int) c1 c2 c3 x20 x21 x22 x23 (xs.length:Int) (.ptr jl 0) (.func 71 [] [.ptr jl 0]) o0 o1 c1' o3 e.f e.t e.n e.v c2 (es.length:Int) (i:Int) ((xs.length+1:Nat):Int) ((lv+1:Nat):Int) H1/\
    Kp H0 F b jl xs.length m0 G H H1 (us++[uE (oneE1 xs e lv)]) c1':=by
   rw[K0w]
   simp only[show((lv:Int)<((xs.length+1:Nat):Int)) by omega,dY,iT,if_neg hmx,j1l]
   by_cases he:lv=xs.length
   ·obtain⟨H1,c1',z1,z2⟩:=J0s hM A hj hbm hlm (x20:=x20) (x21:=x21) (x22:=x22) (x23:=x23) (o1:=o1) (o3:=o3) (o0:=o0) (i:=(i:Int)) hs hsa ht hta hlv (by omega) (xs.length+1) 0 H (by omega) (Nat.zero_le _) f o
    refine⟨H1,c1', ?_, ?_⟩
    ·rw[if_pos (by rw[he];simp)]
     exact z1
    ·unfold oneE1 lev
     rw[if_pos he,ett];exact z2
   ·obtain⟨H1,c1',z1,z2⟩:=J0s hM A hj hbm hlm (x20:=x20) (x21:=x21) (x22:=x22) (x23:=x23) (o1:=o1) (o3:=o3) (o0:=o0) (i:=(i:Int)) hs hsa ht hta hlv (by omega) (xs.length+1) lv H (by omega) hlv f o
    refine⟨H1,c1', ?_, ?_⟩
    ·have hm:Int.tmod (lv:Int) (if(1:Int)>(xs.length:Int)then(1:Int)else(xs.length:Int))=(lv:Int):=by
      rw[if_neg (by omega),Q0m,Nat.mod_eq_of_lt (by omega)]
     rw[if_neg (by simp;omega),hm]
     exact z1
    ·unfold oneE1 lev
     rw[if_neg he,ett];exact z2
  obtain⟨H1,c1',z1,z2⟩:=key
  obtain⟨H',c',q1,q2⟩:=ih (lv+1) H1 _ c1' (by omega) (by simp;omega) z2.f z2.o
  refine⟨H',c',z1.trans q1, ?_⟩
  rw[List.range'_succ,List.map_cons]
  have:=z2.trans q2
  rw[List.append_assoc]at this
  exact this
theorem Y0i{jl m0:Nat}(hj:jl<m0)(hbm:b<=m0)(hlm:lim<=m0){x20:Int}{x21 x22 x23 o1 o3:C}{o0:Int}{G:Nat->Prop}:
  ∀(d i:Nat) (H:Heap) (us:List U) (c:C),i+d=es.length->us.length+d*9<=1000000->Fr1 H0 F b jl xs.length m0 H G->OutR m0 H G 4 us c->
  ∃H' c',f33_2 (MH lim) (a:Int) c1 c2 c3 x20 x21 x22 x23 (xs.length:Int) (.ptr jl 0) (.func 71 [] [.ptr jl 0]) o0 o1 c o3 c2 (es.length:Int) (i:Int) H=
    f33_6 (MH lim) x20 x21 x22 x23 (xs.length:Int) (.func 71 [] [.ptr jl 0]) o0 o1 c' o3 (a:Int) 0 H'/\
   Kp H0 F b jl xs.length m0 G H H' (us++(oneEs xs (es.drop i)).map uE) c'/\(i=es.length->c'=c):=by
 have he:=A.he;have hx:=A.hx
 intro d
 induction d with
 |zero=>
  intro i H us c hi hu f o
  refine⟨H,c, ?_,⟨f,by rw[dL (by omega)];simpa[oneEs]using o, .refl _ _,fun _ _=>rfl,nR _⟩,fun _=>rfl⟩
  rw[K0v]
  simp only[show¬((i:Int)<((es.length:Nat):Int)) by omega,dF,bF,iF]
 |succ d ih=>
  intro i H us c hi hu f o
  have hlt:i<es.length:=by omega
  have hg:es[i]? =some es[i]:=q0a hlt
  obtain⟨hs,ht,_⟩:=J0u A.ok hg
  obtain⟨i1,o1',g1,g2,g3,g4,g5,g6⟩:=rdE (k0X A.u2 f.fr A.hF) hg
  obtain⟨H1,c1',z1,z2⟩:=Y0h hM A hj hbm hlm (x20:=x20) (x21:=x21) (x22:=x22) (x23:=x23) (o1:=o1) (o3:=o3) (o0:=o0) (i:=i) (by omega) hs ht (xs.length+1) 0 H us c (by omega) (by omega) f o
  obtain⟨H',c',q1,q2,_⟩:=ih (i+1) H1 _ c1' (by omega) (by simp;omega) z2.f z2.o
  refine⟨H',c', ?_, ?_,fun h=>by omega⟩
  ·rw[K0v]
   rw[show((0:Nat):Int)=0 from rfl]at z1
   have hbox:Heap.ld H jl 0=some (.int .i64 ((xs.length+1:Nat):Int)):=by rw[z0R f.box];rfl
   simp only[show((i:Int)<((es.length:Nat):Int)) by omega,dY,iT,g1,oS,g3,g4,g5,g6,asI_int,asP_ptr,hbox,z1,q1]
  ·rw[List.drop_eq_getElem_cons hlt,W0F,<-List.append_assoc]
   exact z2.trans q2
end
end Go.Proofs.Ytglkhoamnmiolaa.R
