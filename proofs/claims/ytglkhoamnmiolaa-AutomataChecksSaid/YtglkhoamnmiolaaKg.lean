/- - -/
import Derived.Test.YtglkhoamnmiolaaKf
import Derived.Test.YtglkhoamnmiolaaKb
import Derived.Test.YtglkhoamnmiolaaWx
set_option linter.all false
namespace Go.Proofs.Ytglkhoamnmiolaa.R
open Go Go.Proofs.Ytglkhoamnmiolaa.Vm
abbrev MH(lim:Nat):Mach:=⟨awExt 8,lim,true⟩
abbrev CallsY(lim:Nat)(y:YCallT):Prop:=CallsOK lim (callOf (run (awExt 8) (progOf 8 prog true) lim)) md y
theorem X0y{lim:Nat}{M:YM}(hM:CallsY lim M.ext){f:FuncId}{us:List U}{r:Rz}{u:U}(h:ycall M f us=some r)(hu:r.toU=some u){H:Heap}{F:Nat->Prop}{vs:List V}(hl:lim<=H.next)(hF: ∀i,F i->i<H.next)(hv:UVs H F us vs):
  ∃v H' F',mcall (MH lim) f vs H=some (v,H')/\FrX none H F H' F'/\UV H' F' u v:=
 Rz.callU (md:=md) (z0J (vext:=awExt 8) (yext:=M.ext) (prog:=progOf 8 prog true) (lim:=lim) w0m hM) h hu hl hF hv
section
variable{H H':Heap}{F F':Nat->Prop}
theorem J0Y(h:FrX none H F H' F'):Grow H H':=⟨h.next,fun i hi=>h.keep i hi (fun e=>by cases e)⟩
theorem FrB.fr{b:Nat}{H0:Heap}(h:FrB b H0 H)(g:Grow H H'):FrB b H0 H':=⟨nT h.next g.next,fun i hi=>(g.keep i (nL hi h.next)).trans (h.old i hi)⟩
theorem Q1t{u1 u2:U}{v1 v2:V}(h1:UV H F u1 v1)(h2:UV H F u2 v2):UVs H F [u1,u2] [v1,v2]:=⟨v1,[v2],rfl,h1,v2,[],rfl,h2,rfl⟩
theorem w1a{n:Int}:UV H F (uI n) (.c (.int .i64 n)):=⟨rfl,rfl,rfl⟩
theorem q1b(e:E4):UV H F (uE e) (.agg [.int .i64 e.f, .int .i64 e.t, .int .i64 e.n, .int .i64 e.v]):=
 ⟨_,rfl,_,_,rfl,rfl,⟨rfl,rfl⟩,_,_,rfl,rfl,⟨rfl,rfl⟩,_,_,rfl,rfl,⟨rfl,rfl⟩,_,_,rfl,rfl,⟨rfl,rfl⟩,rfl⟩
theorem z0r{cs r:List C}{o n j:Nat}{x:C}(h:(cs.drop o).take n=r)(hj:r[j]? =some x):cs[o+j]? =some x:=by
 subst h
 rw[List.getElem?_take]at hj
 split at hj
 ·rw[List.getElem?_drop]at hj;exact hj
 ·cases hj
theorem rdE{b:Bool}{es:List E4}{c:C}(h:UC H F (uEs b es) [c]){k:Nat}{e:E4}(hk:es[k]? =some e): ∃i o,C.elem 4 c (k:Int)=some (i,o)/\F i/\H.ld i o=some (.int .i64 e.f)/\H.ld i (o+1)=some (.int .i64 e.t)/\
  H.ld i (o+1+1)=some (.int .i64 e.n)/\H.ld i (o+1+1+1)=some (.int .i64 e.v):=by
 obtain⟨i,o,z,cs,e1,e2,e3,e4,e5⟩:=h.elem (k:=k) (u:=uE e) (by simp[hk])
 rw[show(uE e).size=4 from rfl]at e1 e5
 obtain⟨c0,_,k0,_,q0,c1,_,rfl,_,q1,c2,_,rfl,_,q2,c3,_,rfl,_,q3,rfl⟩:=e5
 have t0:c0= .int .i64 e.f:=by have:=q0.2;simpa using this
 have t1:c1= .int .i64 e.t:=by have:=q1.2;simpa using this
 have t2:c2= .int .i64 e.n:=by have:=q2.2;simpa using this
 have t3:c3= .int .i64 e.v:=by have:=q3.2;simpa using this
 subst t0 t1 t2 t3
 exact⟨i,o,e1,e2,ldX e3 (z0r (j:=0) k0 rfl),ldX e3 (z0r (j:=1) k0 rfl),ldX e3 (z0r (j:=2) k0 rfl),ldX e3 (z0r (j:=3) k0 rfl)⟩
theorem J1o{b:Bool}{l:List E4}{c:C}(h:UC H F (uEs b l) [c]):C.len c=some l.length:=by have:=UC.lenC h;simpa using this
end
def toP(w0:List Int)(n p:Nat):Nat:=if p+1=n then w0.length else p+1
def psE(n t p:Nat)(e:E4):Int×Int:=(e.t*n+t,e.f*n+p)
def psP(es:List E4)(w0 w1:List Int)(n p:Nat):List (Int×Int):=(es.filter fun e=>rdI e (letr w0 w1 p)).map (psE n (toP w0 n p) p)
section
variable{lim:Nat}{M:YM}(hM:CallsY lim M.ext){H0:Heap}{F:Nat->Prop}{b a:Nat}{b1 b2 b3 b4 b5:Bool}{l:List Int}{es:List E4}{xs:List (Bool×List Int)}{w0 w1:List Int}{c1 c2 c3 d0 d1:C}
structure AW (lim:Nat) (H0:Heap) (F:Nat->Prop) (b a:Nat) (l:List Int) (es:List E4) (xs:List (Bool×List Int)) (w0 w1:List Int) (b1 b2 b3 b4 b5:Bool) (c1 c2 c3 d0 d1:C):Prop where
 hl:lim<=b
 hF: ∀i,F i->i<b
 ha:a<=300
 he:es.length<=6000
 hx:xs.length<=8
 ok:es.all (eOK (a:Int))=true
 wp:0<w1.length
 wl:(w0++w1).all ltr=true
 wn:w0.length+w1.length<=60
 u1:UC H0 F (uIs b1 l) [c1]
 u2:UC H0 F (uEs b2 es) [c2]
 u3:UC H0 F (uLs b3 xs) [c3]
 v0:UC H0 F (uIs b4 w0) [d0]
 v1:UC H0 F (uIs b5 w1) [d1]
 hls:l.length<=1000000/\ ∀s∈l,0<=s/\s<(a:Int)
 hxs: ∀x∈xs,x.2.length<=1000000/\ ∀s∈x.2,0<=s/\s<(a:Int)
variable(A:AW lim H0 F b a l es xs w0 w1 b1 b2 b3 b4 b5 c1 c2 c3 d0 d1)
theorem J0Z{a:Nat}{es:List E4}(h:es.all (eOK (a:Int))=true){k:Nat}{e:E4}(hk:es[k]? =some e):(∃f:Nat,e.f=f/\f<a)/\(∃t:Nat,e.t=t/\t<a)/\btw e.n 0 4095=true/\btw e.v 0 4095=true:=by
 have h1:=List.all_eq_true.1 h e (List.mem_of_getElem? hk)
 simp only[eOK,bA]at h1
 obtain⟨⟨⟨g1,g2⟩,g3⟩,g4⟩:=h1
 simp only[btw,dE]at g1 g2
 refine⟨?_, ?_,g3,g4⟩
 ·obtain⟨f,hf⟩:=iZ g1.1;exact⟨f,hf,by omega⟩
 ·obtain⟨f,hf⟩:=iZ g2.1;exact⟨f,hf,by omega⟩
include hM A
end
end Go.Proofs.Ytglkhoamnmiolaa.R
