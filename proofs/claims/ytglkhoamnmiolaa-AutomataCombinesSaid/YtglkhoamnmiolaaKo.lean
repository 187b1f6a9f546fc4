/- - -/
import Derived.Test.YtglkhoamnmiolaaKn
set_option linter.all false
namespace Go.Proofs.Ytglkhoamnmiolaa.R
open Go Go.Proofs.Ytglkhoamnmiolaa.Vm
theorem X0Q: ∀{l:List Int} {p:Option Int},asc p l↔(∀y,p=some y-> ∀x∈l,y<x)/\l.Pairwise (· < ·)
 | [],p=>by simp[asc]
 |x::l,p=>by
  rw[asc,X0Q (l:=l),List.pairwise_cons]
  constructor
  ·rintro⟨h1,h2,h3⟩
   refine⟨fun y hy z hz=> ?_,fun z hz=>h2 x rfl z hz,h3⟩
   rcases mC.1 hz with rfl |hz
   ·exact h1 y hy
   ·have:=h1 y hy;have:=h2 x rfl z hz;omega
  ·rintro⟨h1,h2,h3⟩
   exact⟨fun y hy=>h1 y hy x (by simp),fun y hy z hz=>by cases hy;exact h2 z hz,h3⟩
theorem sErr_pw{n:Int}{l:List Int}:sErr n none l=0↔(∀x∈l,0<=x/\x<n)/\l.Pairwise (· < ·):=by
 rw[sErr_zero,X0Q]
 exact⟨fun h=>⟨h.1,h.2.2⟩,fun h=>⟨h.1,fun y hy=>(by cases hy),h.2⟩⟩
theorem X0R: ∀{l:List Int} {n:Int} {m:Nat},(∀x∈l,n<=x/\x<n+m)->l.Pairwise (· < ·)->l.length<=m
 | [],n,m,_,_=>Nat.zero_le _
 |x::l,n,m,h,hp=>by
  rw[List.pairwise_cons]at hp
  have hx:=h x (by simp)
  cases m with
  |zero=>omega
  |succ m=>
   have:=X0R (l:=l) (n:=n+1) (m:=m) (fun y hy=>by have:=h y (by simp[hy]);have:=hp.1 y hy;omega) hp.2
   simp only[List.length_cons];omega
theorem q0Z{a:Nat}{l:List Int}(ha:a<=300)(h:sErr (a:Int) none l=0):rng a l:=by
 obtain⟨h1,h2⟩:=sErr_pw.1 h
 have:=X0R (n:=0) (m:=a) (fun x hx=>by have:=h1 x hx;omega) h2
 refine⟨by omega,fun s hs=> ?_⟩
 have:=h1 s hs
 exact⟨s.toNat,by omega,by omega⟩
theorem j0B{a:Nat}{e:E4}(h:eOK (a:Int) e=true):okE a e/\(∃n:Nat,e.n=n/\n<4096)/\ ∃v:Nat,e.v=v/\v<4096:=by
 simp only[eOK,bA]at h
 obtain⟨⟨⟨g1,g2⟩,g3⟩,g4⟩:=h
 simp only[btw,dE]at g1 g2 g3 g4
 exact⟨⟨⟨e.f.toNat,by omega,by omega⟩,e.t.toNat,by omega,by omega⟩,⟨e.n.toNat,by omega,by omega⟩,e.v.toNat,by omega,by omega⟩
theorem z1A{a:Int}{e:E4}(h1:0<=e.f/\e.f<a)(h2:0<=e.t/\e.t<a)(h3:0<=e.n/\e.n<=4095)(h4:0<=e.v/\e.v<=4095):eOK a e=true:=by
 simp only[eOK,bA,btw,dE];omega
theorem K0J{a b:Nat}(ha:a<4096)(hb:b<4096):bitI .or .i64 (a:Int) (b:Int)=((a|||b:Nat):Int)/\a|||b<4096:=by
 have h:a|||b<2 ^ 12:=Nat.or_lt_two_pow (by omega) (by omega)
 refine⟨?_,by omega⟩
 have h1:BitVec.ofInt 64 (a:Int)=BitVec.ofNat 64 a:=by simp
 have h2:BitVec.ofInt 64 (b:Int)=BitVec.ofNat 64 b:=by simp
 unfold bitI
 show IntKind.wrap .i64 (((BitVec.ofInt 64 (a:Int))|||(BitVec.ofInt 64 (b:Int))).toNat:Int)=_
 rw[h1,h2,BitVec.toNat_or,BitVec.toNat_ofNat,BitVec.toNat_ofNat]
 rw[Nat.mod_eq_of_lt (show a<2 ^ 64 by omega),Nat.mod_eq_of_lt (show b<2 ^ 64 by omega)]
 exact q0h (by omega) (by omega)
theorem X0S{e:E4}{n v c:Nat}(hn:e.n=n)(hv:e.v=v)(h1:n<4096)(h2:v<4096)(hc:c<4096):rdI e (c:Int)=true↔c&&& n=n/\c&&& v=0:=by
 unfold rdI
 rw[hn,hv,w0f hc h1,w0f hc h2,bA,dE,dE]
 omega
theorem z1B(c a b:Nat):c&&& (a|||b)=a|||b↔c&&& a=a/\c&&& b=b:=by
 constructor
 ·intro h
  have hb: ∀i,(c.testBit i&&(a.testBit i||b.testBit i))=(a.testBit i||b.testBit i):=fun i=>by
   have:=congrArg (fun x=>Nat.testBit x i) h
   simp only[Nat.testBit_and,Nat.testBit_or]at this
   exact this
  constructor<;>
  ·refine Nat.eq_of_testBit_eq fun i=> ?_
   have:=hb i
   rw[Nat.testBit_and]
   revert this
   cases c.testBit i<;>cases a.testBit i<;>cases b.testBit i<;>simp
 ·rintro⟨h1,h2⟩
  refine Nat.eq_of_testBit_eq fun i=> ?_
  have e1:=congrArg (fun x=>Nat.testBit x i) h1
  have e2:=congrArg (fun x=>Nat.testBit x i) h2
  simp only[Nat.testBit_and]at e1 e2
  rw[Nat.testBit_and,Nat.testBit_or]
  revert e1 e2
  cases c.testBit i<;>cases a.testBit i<;>cases b.testBit i<;>simp
theorem j0r(c v:Nat):c&&& v=0↔ ∀i,(c.testBit i&&v.testBit i)=false:=by
 constructor
 ·intro h i
  have:=congrArg (fun x=>Nat.testBit x i) h
  simpa[Nat.testBit_and]using this
 ·intro h
  refine Nat.eq_of_testBit_eq fun i=> ?_
  rw[Nat.testBit_and,h i];simp
theorem X0T(c a b:Nat):c&&& (a|||b)=0↔c&&& a=0/\c&&& b=0:=by
 rw[j0r,j0r,j0r]
 simp only[Nat.testBit_or]
 constructor
 ·intro h
  constructor<;>intro i<;>have:=h i<;>revert this<;>cases c.testBit i<;>cases a.testBit i<;>cases b.testBit i<;>simp
 ·rintro⟨h1,h2⟩ i
  have e1:=h1 i;have e2:=h2 i
  revert e1 e2
  cases c.testBit i<;>cases a.testBit i<;>cases b.testBit i<;>simp
theorem w1I{c n v:Nat}(h1:c&&& n=n)(h2:c&&& v=0):n&&& v=0:=by
 rw[j0r]at h2⊢
 intro i
 have e1:=congrArg (fun x=>Nat.testBit x i) h1
 have e2:=h2 i
 simp only[Nat.testBit_and]at e1
 revert e1 e2
 cases c.testBit i<;>cases n.testBit i<;>cases v.testBit i<;>simp
theorem w1J{b:Int}{x y:E4}{n1 v1 n2 v2 c:Nat}(h1:x.n=n1)(h2:x.v=v1)(h3:y.n=n2)(h4:y.v=v2)(g1:n1<4096)(g2:v1<4096)(g3:n2<4096)(g4:v2<4096)(hc:c<4096):
  (canR (prE b x y)=true/\rdI (prE b x y) (c:Int)=true)↔rdI x (c:Int)=true/\rdI y (c:Int)=true:=by
 obtain⟨o1,o2⟩:=K0J g1 g3
 obtain⟨o3,o4⟩:=K0J g2 g4
 have e1:(prE b x y).n=((n1|||n2:Nat):Int):=by show bitI .or .i64 x.n y.n=_;rw[h1,h3,o1]
 have e2:(prE b x y).v=((v1|||v2:Nat):Int):=by show bitI .or .i64 x.v y.v=_;rw[h2,h4,o3]
 rw[X0S e1 e2 o2 o4 hc,X0S h1 h2 g1 g2 hc,X0S h3 h4 g3 g4 hc,z1B,X0T]
 constructor
 ·rintro⟨_,⟨a1,a2⟩,a3,a4⟩;exact⟨⟨a1,a3⟩,a2,a4⟩
 ·rintro⟨⟨a1,a3⟩,a2,a4⟩
  refine⟨?_,⟨a1,a2⟩,a3,a4⟩
  unfold canR
  rw[e1,e2,w0f o2 o4,w1I ((z1B c n1 n2).2 ⟨a1,a2⟩) ((X0T c v1 v2).2 ⟨a3,a4⟩)]
  rfl
section
variable{a b:Nat}{l l':List Int}{es es':List E4}{xs xs' zs:List (Bool×List Int)}
theorem mem_bothL{s:Int}:s∈bothL (b:Int) l l'↔ ∃x∈l,∃y∈l',s=x*b+y:=by
 simp only[bothL,List.mem_flatMap,List.mem_map]
 exact⟨fun⟨x,hx,y,hy,h⟩=>⟨x,hx,y,hy,h.symm⟩,fun⟨x,hx,y,hy,h⟩=>⟨x,hx,y,hy,h.symm⟩⟩
theorem j0N{x y a b:Nat}(hx:x<a)(hy:y<b):x*b+y<a*b:=k0s hx hy
theorem Q0y{l1:List Int}{f:Int->List Int}(h1:l1.Pairwise (· < ·))(hn: ∀x∈l1,∃n:Nat,x=n)(hf: ∀x∈l1,(f x).Pairwise (· < ·))(hb: ∀x∈l1,∀z∈f x,∃t:Nat,z=x*b+t/\t<b):(l1.flatMap f).Pairwise (· < ·):=by
 rw[List.pairwise_flatMap]
 refine⟨hf,h1.imp_of_mem fun{x y} hx hy hlt z hz w hw=> ?_⟩
 obtain⟨t,rfl,ht⟩:=hb x hx z hz
 obtain⟨t',rfl,ht'⟩:=hb y hy w hw
 obtain⟨n,rfl⟩:=hn x hx
 obtain⟨m,rfl⟩:=hn y hy
 have:(n+1)*b<=m*b:=Nat.mul_le_mul_right _ (by omega)
 rw[Nat.succ_mul]at this
 rw[<-Int.natCast_mul,<-Int.natCast_mul]
 omega
theorem X0U{l1:List Int}{c:Int}(h:l1.Pairwise (· < ·)):(l1.map fun t=>c+t).Pairwise (· < ·):=by
 rw[List.pairwise_map];exact h.imp fun h=>by omega
theorem K0K: ∀n:Nat,((List.range n).map fun(t:Nat)=>(t:Int)).Pairwise (· < ·):=fun n=>by
 rw[List.pairwise_map]
 exact List.pairwise_lt_range.imp fun h=>by omega
variable(ha:a<=300)(hb:b<=300)
include ha hb
theorem j1A(h:sErr (a:Int) none l=0)(h':sErr (b:Int) none l'=0):sErr ((a*b:Nat):Int) none (bothL (b:Int) l l')=0:=by
 have r:=q0Z ha h;have r':=q0Z hb h'
 rw[sErr_pw]at h h'⊢
 refine⟨fun z hz=> ?_,Q0y (b:=b) h.2 (fun x hx=>(r.2 x hx).imp fun n h=>h.1) (fun x _=>X0U h'.2) fun x _ z hz=> ?_⟩
 ·obtain⟨x,hx,y,hy,rfl⟩:=mem_bothL.1 hz
  obtain⟨n,rfl,hn⟩:=r.2 x hx
  obtain⟨m,rfl,hm⟩:=r'.2 y hy
  have:=j0N hn hm
  rw[<-Int.natCast_mul];omega
 ·obtain⟨t,ht,rfl⟩:=List.mem_map.1 hz
  obtain⟨m,rfl,hm⟩:=r'.2 t ht
  exact⟨m,rfl,hm⟩
theorem j1B(h:sErr (a:Int) none l=0):sErr ((a*b:Nat):Int) none (bothA b l)=0:=by
 have r:=q0Z ha h
 rw[sErr_pw]at h⊢
 have key: ∀x,∀z∈(List.range b).map fun(t:Nat)=>x*(b:Int)+(t:Int),∃t:Nat,z=x*b+t/\t<b:=fun x z hz=>by
  obtain⟨t,ht,rfl⟩:=List.mem_map.1 hz
  exact⟨t,rfl,List.mem_range.1 ht⟩
 refine⟨fun z hz=> ?_,Q0y (b:=b) h.2 (fun x hx=>(r.2 x hx).imp fun n h=>h.1) (fun x _=> ?_) fun x _=>key x⟩
 ·obtain⟨x,hx,hz⟩:=List.mem_flatMap.1 hz
  obtain⟨t,rfl,ht⟩:=key x z hz
  obtain⟨n,rfl,hn⟩:=r.2 x hx
  have:=j0N hn ht
  rw[<-Int.natCast_mul];omega
 ·have:=X0U (c:=x*(b:Int)) (K0K b)
  rwa [List.map_map]at this
theorem j1C(h:sErr (b:Int) none l'=0):sErr ((a*b:Nat):Int) none (bothB a b l')=0:=by
 have r:=q0Z hb h
 rw[sErr_pw]at h⊢
 have e:bothB a b l'=((List.range a).map fun(t:Nat)=>(t:Int)).flatMap fun s=>l'.map fun t=>s*(b:Int)+t:=by rw[bothB,List.flatMap_map]
 have key: ∀x:Int,∀z∈l'.map fun t=>x*(b:Int)+t,∃t:Nat,z=x*b+t/\t<b:=fun x z hz=>by
  obtain⟨t,ht,rfl⟩:=List.mem_map.1 hz
  obtain⟨m,rfl,hm⟩:=r.2 t ht
  exact⟨m,rfl,hm⟩
 rw[e]
 refine⟨fun z hz=> ?_,Q0y (b:=b) (K0K a) (fun x hx=> ?_) (fun x _=>X0U h.2) fun x _=>key x⟩
 ·obtain⟨x,hx,hz⟩:=List.mem_flatMap.1 hz
  obtain⟨t,rfl,ht⟩:=key x z hz
  obtain⟨n,hn,rfl⟩:=List.mem_map.1 hx
  have:=j0N (List.mem_range.1 hn) ht
  rw[<-Int.natCast_mul];omega
 ·obtain⟨n,_,rfl⟩:=List.mem_map.1 hx;exact⟨n,rfl⟩
theorem w1K{x y:E4}(hx:eOK (a:Int) x=true)(hy:eOK (b:Int) y=true):eOK ((a*b:Nat):Int) (prE (b:Int) x y)=true:=by
 obtain⟨⟨⟨f,f1,f2⟩,t,t1,t2⟩,⟨n,n1,n2⟩,v,v1,v2⟩:=j0B hx
 obtain⟨⟨⟨g,g1,g2⟩,u,u1,u2⟩,⟨m,m1,m2⟩,w,w1,w2⟩:=j0B hy
 have p1:=j0N f2 g2
 have p2:=j0N t2 u2
 obtain⟨o1,o2⟩:=K0J n2 m2
 obtain⟨o3,o4⟩:=K0J v2 w2
 refine z1A ?_ ?_ ?_ ?_
 ·show 0<=x.f*(b:Int)+y.f/\x.f*(b:Int)+y.f<_
  rw[f1,g1,<-Int.natCast_mul];omega
 ·show 0<=x.t*(b:Int)+y.t/\x.t*(b:Int)+y.t<_
  rw[t1,u1,<-Int.natCast_mul];omega
 ·show 0<=bitI .or .i64 x.n y.n/\bitI .or .i64 x.n y.n<=4095
  rw[n1,m1,o1];omega
 ·show 0<=bitI .or .i64 x.v y.v/\bitI .or .i64 x.v y.v<=4095
  rw[v1,w1,o3];omega
omit ha hb in
theorem mem_bothE{z:E4}:z∈bothE (b:Int) es es'↔ ∃x∈es,∃y∈es',z=prE (b:Int) x y/\canR z=true:=by
 simp only[bothE,List.mem_flatMap,List.mem_filter,List.mem_map]
 exact⟨fun⟨x,hx,⟨y,hy,h⟩,hc⟩=>⟨x,hx,y,hy,h.symm,hc⟩,fun⟨x,hx,y,hy,h,hc⟩=>⟨x,hx,⟨y,hy,h.symm⟩,hc⟩⟩
omit ha hb in
theorem X0V:(bothE (b:Int) es es').length<=es.length*es'.length:=by
 induction es with
 |nil=>simp[bothE]
 |cons e es ih=>
  have h1:(bothE (b:Int) (e::es) es').length=((es'.map (prE (b:Int) e)).filter canR).length+(bothE (b:Int) es es').length:=by simp[bothE]
  have h2:=List.length_filter_le canR (es'.map (prE (b:Int) e))
  rw[List.length_map]at h2
  rw[h1,List.length_cons,Nat.succ_mul];omega
theorem k1i(h:aErr (a:Int) l es xs=0)(h':aErr (b:Int) l' es' xs'=0)(h1:a*b<=300)(h2:(bothE (b:Int) es es').length<=6000)(h3:zs.length<=8)(hz:zs.map (·.2)=(xs.map fun x=>bothA b x.2)++xs'.map fun x=>bothB a b x.2):
  aErr ((a*b:Nat):Int) (bothL (b:Int) l l') (bothE (b:Int) es es') zs=0/\(bothL (b:Int) l l').length<=300:=by
 obtain⟨_,_,_,k4,k5,k6⟩:=aErr_zero.1 h
 obtain⟨_,_,_,m4,m5,m6⟩:=aErr_zero.1 h'
 have ok:=j1A ha hb k5 m5
 refine⟨aErr_zero.2 ⟨by simp only[btw,dE];omega,h2,h3, ?_,ok,fun z hzm=> ?_⟩,(q0Z h1 ok).1⟩
 ·refine List.all_eq_true.2 fun z hzm=> ?_
  obtain⟨x,hx,y,hy,rfl,_⟩:=mem_bothE.1 hzm
  exact w1K ha hb (List.all_eq_true.1 k4 x hx) (List.all_eq_true.1 m4 y hy)
 ·have:z.2∈zs.map (·.2):=List.mem_map.2 ⟨z,hzm,rfl⟩
  rw[hz,mA]at this
  rcases this with h |h
  ·obtain⟨x,hx,e⟩:=List.mem_map.1 h
   rw[<-e];exact j1B ha hb (k6 x hx)
  ·obtain⟨x,hx,e⟩:=List.mem_map.1 h
   rw[<-e];exact j1C ha hb (m6 x hx)
end
end Go.Proofs.Ytglkhoamnmiolaa.R
