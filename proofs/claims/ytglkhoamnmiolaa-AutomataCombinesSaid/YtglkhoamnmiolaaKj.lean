/- - -/
import Derived.Test.YtglkhoamnmiolaaKi
set_option linter.all false
namespace Go.Proofs.Ytglkhoamnmiolaa.R
open Go Go.Proofs.Ytglkhoamnmiolaa.Vm
structure AV (lim:Nat) (H0:Heap) (F:Nat->Prop) (b a:Nat) (l:List Int) (es:List E4) (xs:List (Bool×List Int)) (b1 b2 b3:Bool) (c1 c2 c3:C):Prop where
 hl:lim<=b
 hF: ∀i,F i->i<b
 ha:a<=300
 he:es.length<=6000
 hx:xs.length<=8
 ok:es.all (eOK (a:Int))=true
 u1:UC H0 F (uIs b1 l) [c1]
 u2:UC H0 F (uEs b2 es) [c2]
 u3:UC H0 F (uLs b3 xs) [c3]
 hls:l.length<=1000000/\ ∀s∈l,0<=s/\s<(a:Int)
 hxs: ∀x∈xs,x.2.length<=1000000/\ ∀s∈x.2,0<=s/\s<(a:Int)
def accL(xs:List (Bool×List Int))(k t:Nat):Bool:=decide ((t:Int)∈(xs.getD k (false,[])).2)
def oneL(m:Nat)(l:List Int):List Int:=l.map fun s=>s*(m+1:Nat)
def oneE1(xs:List (Bool×List Int))(e:E4)(lv:Nat):E4:=⟨e.f*(xs.length+1:Nat)+lv,e.t*(xs.length+1:Nat)+lev (accL xs) xs.length e.t.toNat lv,e.n,e.v⟩
def oneEs(xs:List (Bool×List Int))(es:List E4):List E4:=es.flatMap fun e=>(List.range (xs.length+1)).map fun lv=>oneE1 xs e lv
def oneA(m a:Nat):List Int:=(List.range a).map fun(s:Nat)=>((s*(m+1)+m:Nat):Int)
section
variable{H H':Heap}{F F':Nat->Prop}
theorem Y0n(h:FrX none H F H' F')(hF: ∀i,F i->i<H.next):FrX none H F H' F:=⟨h.next,h.keep,fun _ h=>h,fun _ h=> .inl h,fun i hi=>nL (hF i hi) h.next⟩
theorem J1Z{u1 u2 u3:U}{v1 v2 v3:V}(h1:UV H F u1 v1)(h2:UV H F u2 v2)(h3:UV H F u3 v3):UVs H F [u1,u2,u3] [v1,v2,v3]:=⟨v1,[v2,v3],rfl,h1,k1o h2 h3⟩
theorem w1R{j:Nat}{n:Int}(hF:F j)(hg:H.get j=some (.cells 1 [.int .i64 n])):UV H F (.ref (.st [uI n]) 0) (.c (.ptr j 0)):=
 ⟨rfl,j,0,1,_,1,rfl,hF,hg,by simp,by
  rw[List.drop_zero]
  exact⟨_,[],rfl,rfl,⟨rfl,rfl⟩,rfl⟩⟩
end
section
variable{lim:Nat}{M:YM}(hM:CallsY lim M.ext){H0:Heap}{F:Nat->Prop}{b a:Nat}{b1 b2 b3:Bool}{l:List Int}{es:List E4}{xs:List (Bool×List Int)}{c1 c2 c3:C}
variable(A:AV lim H0 F b a l es xs b1 b2 b3 c1 c2 c3)
theorem Q0G{H:Heap}{G:Nat->Prop}{j s lv m:Nat}(hl:lim<=H.next)(hG: ∀i,G i->i<H.next)(hj:G j)(hg:H.get j=some (.cells 1 [.int .i64 ((m+1:Nat):Int)]))(hs:s<=300)(hm:m<=8)(hlv:lv<=8)(hM:CallsY lim M.ext):
  ∃H1,mcall (MH lim) 71 ([].map .c++[(.c (.int .i64 (s:Int))),(.c (.int .i64 (lv:Int)))]++[C.ptr j 0].map .c) H=some (.c (.int .i64 ((s*(m+1)+lv:Nat):Int)),H1)/\FrX none H G H1 G:=by
 have hb:s*(m+1)<=300*9:=Nat.mul_le_mul hs (by omega)
 have hy:ycall M 71 [uI (s:Int),uI (lv:Int), .ref (.st [uI ((m+1:Nat):Int)]) 0]=some (.val (uI ((s*(m+1)+lv:Nat):Int))):=by
  show y71 M (s:Int) (lv:Int) (.ref (.st [uI ((m+1:Nat):Int)]) 0)=_
  have e1:IntKind.wrap .i64 ((s:Int)*((m+1:Nat):Int))=((s*(m+1):Nat):Int):=by rw[<-Int.natCast_mul,q0h (by omega) (by omega)]
  have e2:IntKind.wrap .i64 (((s*(m+1):Nat):Int)+(lv:Int))=((s*(m+1)+lv:Nat):Int):=by rw[q0h (by omega) (by omega)];omega
  rw[w1v]
  simp only[U.asR,oS,U.cell,U.cells,List.getElem?_cons_zero,asI_c,e1,e2]
 obtain⟨v,H1,F1,k1,k2,k3⟩:=W0G hM hy rfl hl hG (J1Z w0i w0i (w1R hj hg))
 have:=k3.int
 subst this
 exact⟨H1,k1,Y0n k2 hG⟩
include A
structure Fr1 (H0:Heap) (F:Nat->Prop) (b jl m m0:Nat) (H:Heap) (G:Nat->Prop):Prop where
 fr:FrB b H0 H
 n0:m0<=H.next
 box:H.get jl=some (.cells 1 [.int .i64 ((m+1:Nat):Int)])
 inj:G jl
 sub: ∀i,F i->G i
 lt: ∀i,G i->i<H.next
 new: ∀i,G i->F i\/i=jl\/m0<=i
omit A
theorem Fr1.step{jl m m0:Nat}{H H1:Heap}{G:Nat->Prop}(h:Fr1 H0 F b jl m m0 H G)(hj:jl<m0)(f:FrX none H G H1 G):Fr1 H0 F b jl m m0 H1 G:=
 ⟨h.fr.fr (w0h f),nT h.n0 f.next,by rw[f.keep jl (h.lt jl h.inj) (fun e=>by cases e)];exact h.box,h.inj,h.sub,f.lt,h.new⟩
theorem Fr1.app{jl m m0:Nat}{H H1:Heap}{G:Nat->Prop}(h:Fr1 H0 F b jl m m0 H G)(hj:jl<m0)(hb:b<=m0)(hn:H.next<=H1.next)(hk: ∀i,i<m0->H1.get i=H.get i)(hle:FLe H G H1 G):Fr1 H0 F b jl m m0 H1 G:=
 ⟨⟨nT h.fr.next hn,fun i hi=>by rw[hk i (by omega)];exact h.fr.old i hi⟩,nT h.n0 hn,by rw[hk jl hj];exact h.box,h.inj,h.sub,fun i hi=>nL (h.lt i hi) hn,h.new⟩
theorem K0O{H:Heap}{G:Nat->Prop}(o:Vm.Obj)(h: ∀i,G i->i<H.next):FrX none H G (H.alloc o) G:=FrX.alloc o h
include hM A
theorem Y0o{jl m0:Nat}(hj:jl<m0)(hbm:b<=m0)(hlm:lim<=m0){x20:Int}{x21 x22 x23 o2 o3:C}{o0:Int}:
  ∀(d k:Nat) (H:Heap) (G:Nat->Prop) (c:C),k+d=l.length->Fr1 H0 F b jl xs.length m0 H G->OutR m0 H G 1 ((oneL xs.length (l.take k)).map uI) c->
  ∃H' c',f33_1 (MH lim) (a:Int) c1 c2 c3 x20 x21 x22 x23 (xs.length:Int) (.ptr jl 0) (.func 71 [] [.ptr jl 0]) o0 c o2 o3 c1 (l.length:Int) (k:Int) H=
    f33_2 (MH lim) (a:Int) c1 c2 c3 x20 x21 x22 x23 (xs.length:Int) (.ptr jl 0) (.func 71 [] [.ptr jl 0]) o0 c' o2 o3 c2 (es.length:Int) 0 H'/\
   Fr1 H0 F b jl xs.length m0 H' G/\OutR m0 H' G 1 ((oneL xs.length l).map uI) c'/\(∀i,i<m0->H'.get i=H.get i)/\(k=l.length->c'=c):=by
 have ha:=A.ha;have hx:=A.hx
 intro d
 induction d with
 |zero=>
  intro k H G c hk f o
  refine⟨H,c, ?_,f,by rw[List.take_of_length_le (by omega)]at o;exact o,fun _ _=>rfl,fun _=>rfl⟩
  rw[K0u]
  simp only[show¬((k:Int)<((l.length:Nat):Int)) by omega,dF,bF,iF,Q1i (k0X A.u2 f.fr A.hF),oS]
 |succ d ih=>
  intro k H G c hk f o
  have hlt:k<l.length:=by omega
  obtain⟨y0,y1⟩:=A.hls.2 l[k] (lM hlt)
  obtain⟨s,hs⟩:=iZ y0
  have hget:l[k]? =some (s:Int):=by rw[q0a hlt,hs]
  rw[hs]at y1
  obtain⟨i2,o2',k1,k2,k3⟩:=rdN (k0X A.u1 f.fr A.hF) hget
  obtain⟨H1,g1,g2⟩:=Q0G (M:=M) (lv:=0) (s:=s) (nT hlm f.n0) f.lt f.inj f.box (by omega) hx (by omega) hM
  rw[Nat.add_zero]at g1
  have f1:=f.step hj g2
  have o1:=o.fr g2 (fun i e=>by cases e) f.lt
  have fa:=K0O (.cells 1 [.int .i64 ((s*(xs.length+1):Nat):Int)]) f1.lt
  have f2:=f1.step hj fa
  have o2'':=o1.fr fa (fun i e=>by cases e) f1.lt
  obtain⟨c',H2,z1,z2,z3,z4,z5⟩:=o2''.app (lim:=lim) hlm f2.lt f2.n0 (u:=uI ((s*(xs.length+1):Nat):Int)) (xs:=[.int .i64 ((s*(xs.length+1):Nat):Int)]) ⟨rfl,rfl⟩ rfl (by have:=A.hls.1;simp[oneL];omega)
  have e:(oneL xs.length (l.take k)).map uI++[uI ((s*(xs.length+1):Nat):Int)]=(oneL xs.length (l.take (k+1))).map uI:=by
   rw[List.take_succ_eq_append_getElem hlt,hs]
   simp[oneL]
  rw[e]at z2
  obtain⟨H',c'',q1,q2,q3,q4,_⟩:=ih (k+1) H2 G c' (by omega) (f2.app hj hbm z3 z5 z4) z2
  refine⟨H',c'', ?_,q2,q3,fun i hi=> ?_,fun h=>by omega⟩
  ·rw[K0u]
   rw[show((0:Nat):Int)=0 from rfl]at g1
   simp only[show((k:Int)<((l.length:Nat):Int)) by omega,dY,iT,k1,oS,k3,asI_int,asF_func,C.asF,g1,asC_c,k0Z,z1,q0b (show k<=1000000000 by have:=A.hls.1;omega),q1]
  ·rw[q4 i hi,z5 i hi,fa.keep i (by have:=f1.n0;omega) (fun e=>by cases e),g2.keep i (by have:=f.n0;omega) (fun e=>by cases e)]
end
end Go.Proofs.Ytglkhoamnmiolaa.R
