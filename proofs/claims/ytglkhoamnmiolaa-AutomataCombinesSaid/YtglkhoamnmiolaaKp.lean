/- - -/
import Derived.Test.YtglkhoamnmiolaaKo
set_option linter.all false
namespace Go.Proofs.Ytglkhoamnmiolaa.R
open Go Go.Proofs.Ytglkhoamnmiolaa.Vm
theorem Q0C{x y x' y' b:Nat}(hy:y<b)(hy':y'<b)(h:x*b+y=x'*b+y'):x=x'/\y=y':=by
 obtain⟨d1,d2⟩:=z0i (s:=x) hy
 obtain⟨d3,d4⟩:=z0i (s:=x') hy'
 rw[h]at d1 d2
 exact⟨d1.symm.trans d3,d2.symm.trans d4⟩
theorem K0N{xs:List (Bool×List Int)}{k:Nat}(h:k<xs.length):xs.getD k (false,[])∈xs:=by
 rw[lG,List.getElem?_eq_getElem h];exact lM h
section
variable{a b:Nat}{l l':List Int}{es es':List E4}{xs xs' zs:List (Bool×List Int)}{w:Nat->Nat}
variable(ha:a<=300)(hb:b<=300)(h:aErr (a:Int) l es xs=0)(h':aErr (b:Int) l' es' xs'=0)(hz:zs.map (·.2)=(xs.map fun x=>bothA b x.2)++xs'.map fun x=>bothB a b x.2)(hw: ∀i,w i<4096)
include ha hb h h' hz hw
theorem j1I:Acc (auL (bothL (b:Int) l l') (bothE (b:Int) es es') zs) w↔Acc (auL l es xs) w/\Acc (auL l' es' xs') w:=by
 obtain⟨_,_,_,k4,k5,k6⟩:=aErr_zero.1 h
 obtain⟨_,_,_,m4,m5,m6⟩:=aErr_zero.1 h'
 have r:=q0Z ha k5;have r':=q0Z hb m5
 have hlen:zs.length=xs.length+xs'.length:=by have:=congrArg List.length hz;simpa using this
 have z1: ∀k,k<xs.length->(zs.getD k (false,[])).2=bothA b (xs.getD k (false,[])).2:=fun k hk=>by
  have:=congrArg (fun z=>z[k]?) hz
  simp only[List.getElem?_map]at this
  rw[List.getElem?_append_left (by simpa using hk),List.getElem?_map,List.getElem?_eq_getElem hk,List.getElem?_eq_getElem (show k<zs.length by omega)]at this
  rw[lG,lG,List.getElem?_eq_getElem hk,List.getElem?_eq_getElem (show k<zs.length by omega)]
  exact Option.some.inj this
 have z2: ∀k,k<xs'.length->(zs.getD (xs.length+k) (false,[])).2=bothB a b (xs'.getD k (false,[])).2:=fun k hk=>by
  have:=congrArg (fun z=>z[xs.length+k]?) hz
  simp only[List.getElem?_map]at this
  rw[List.getElem?_append_right (by simp),List.length_map,Nat.add_sub_cancel_left,List.getElem?_map,List.getElem?_eq_getElem hk,List.getElem?_eq_getElem (show xs.length+k<zs.length by omega)]at this
  rw[lG,lG,List.getElem?_eq_getElem hk,List.getElem?_eq_getElem (show xs.length+k<zs.length by omega)]
  exact Option.some.inj this
 refine z1n (b:=b) (fun s c t ⟨e,he,e1,e2,_⟩=> ?_) (fun s=> ?_) (fun s hs=> ?_) (fun i s t=> ?_) hlen (fun k x y hk hy=> ?_) (fun k x y hk hy hx=> ?_)
 ·obtain⟨⟨⟨f,f1,f2⟩,u,u1,u2⟩,_⟩:=j0B (List.all_eq_true.1 m4 e he)
  exact⟨by omega,by omega⟩
 ·show(s:Int)∈bothL (b:Int) l l'↔ ∃x y:Nat,(x:Int)∈l/\(y:Int)∈l'/\s=x*b+y
  rw[mem_bothL]
  constructor
  ·rintro⟨x,hx,y,hy,e⟩
   obtain⟨n,rfl,hn⟩:=r.2 x hx
   obtain⟨m,rfl,hm⟩:=r'.2 y hy
   exact⟨n,m,hx,hy,by rw[<-Int.natCast_mul]at e;omega⟩
  ·rintro⟨x,y,hx,hy,rfl⟩
   exact⟨x,hx,y,hy,by simp⟩
 ·obtain⟨m,e,hm⟩:=r'.2 _ hs
  omega
 ·show(∃e∈bothE (b:Int) es es',e.f=(s:Int)/\e.t=(t:Int)/\rdI e (w i:Int)=true)↔ ∃x y x' y':Nat,(∃e∈es,e.f=(x:Int)/\e.t=(x':Int)/\rdI e (w i:Int)=true)/\(∃e∈es',e.f=(y:Int)/\e.t=(y':Int)/\rdI e (w i:Int)=true)/\s=x*b+y/\t=x'*b+y'
  constructor
  ·rintro⟨z,hz,z1,z2,z3⟩
   obtain⟨x,hx,y,hy,rfl,hc⟩:=mem_bothE.1 hz
   obtain⟨⟨⟨f,f1,f2⟩,t',t1,t2⟩,⟨n,n1,n2⟩,v,v1,v2⟩:=j0B (List.all_eq_true.1 k4 x hx)
   obtain⟨⟨⟨g,g1,g2⟩,u,u1,u2⟩,⟨m,m1,m2⟩,w',w1,w2⟩:=j0B (List.all_eq_true.1 m4 y hy)
   obtain⟨p1,p2⟩:=(w1J (b:=(b:Int)) n1 v1 m1 w1 n2 v2 m2 w2 (hw i)).1 ⟨hc,z3⟩
   refine⟨f,g,t',u,⟨x,hx,f1,t1,p1⟩,⟨y,hy,g1,u1,p2⟩, ?_, ?_⟩
   ·have:x.f*(b:Int)+y.f=(s:Int):=z1
    rw[f1,g1,<-Int.natCast_mul]at this;omega
   ·have:x.t*(b:Int)+y.t=(t:Int):=z2
    rw[t1,u1,<-Int.natCast_mul]at this;omega
  ·rintro⟨x0,y0,x1,y1,⟨x,hx,f1,t1,p1⟩,⟨y,hy,g1,u1,p2⟩,rfl,rfl⟩
   obtain⟨_,⟨n,n1,n2⟩,v,v1,v2⟩:=j0B (List.all_eq_true.1 k4 x hx)
   obtain⟨_,⟨m,m1,m2⟩,w',w1,w2⟩:=j0B (List.all_eq_true.1 m4 y hy)
   obtain⟨hc,hr⟩:=(w1J (b:=(b:Int)) n1 v1 m1 w1 n2 v2 m2 w2 (hw i)).2 ⟨p1,p2⟩
   refine⟨prE (b:Int) x y,mem_bothE.2 ⟨x,hx,y,hy,rfl,hc⟩, ?_, ?_,hr⟩
   ·show x.f*(b:Int)+y.f=_
    rw[f1,g1];simp
   ·show x.t*(b:Int)+y.t=_
    rw[t1,u1];simp
 ·show((x*b+y:Nat):Int)∈(zs.getD k (false,[])).2↔(x:Int)∈(xs.getD k (false,[])).2
  have hk':k<xs.length:=hk
  rw[z1 k hk',bothA,List.mem_flatMap]
  have rk:=q0Z ha (k6 _ (K0N hk'))
  constructor
  ·rintro⟨s,hs,hm⟩
   obtain⟨t,ht,e⟩:=List.mem_map.1 hm
   obtain⟨n,rfl,hn⟩:=rk.2 s hs
   have:n*b+t=x*b+y:=by rw[<-Int.natCast_mul]at e;omega
   obtain⟨e1,e2⟩:=Q0C (List.mem_range.1 ht) hy this
   subst e1;exact hs
  ·intro hx
   exact⟨x,hx,List.mem_map.2 ⟨y,List.mem_range.2 hy,by simp⟩⟩
 ·show((x*b+y:Nat):Int)∈(zs.getD (xs.length+k) (false,[])).2↔(y:Int)∈(xs'.getD k (false,[])).2
  have hk':k<xs'.length:=hk
  obtain⟨c,x',e,he,e1,_⟩:=hx
  obtain⟨⟨⟨f,f1,f2⟩,_⟩,_⟩:=j0B (List.all_eq_true.1 k4 e he)
  rw[z2 k hk',bothB,List.mem_flatMap]
  have rk:=q0Z hb (m6 _ (K0N hk'))
  constructor
  ·rintro⟨s,hs,hm⟩
   obtain⟨t,ht,e'⟩:=List.mem_map.1 hm
   obtain⟨n,rfl,hn⟩:=rk.2 t ht
   have:s*b+n=x*b+y:=by rw[<-Int.natCast_mul]at e';omega
   obtain⟨g1,g2⟩:=Q0C hn hy this
   subst g2;exact ht
  ·intro hy'
   exact⟨x,List.mem_range.2 (by omega),List.mem_map.2 ⟨(y:Int),hy',by simp⟩⟩
end
section
variable{a:Nat}{l:List Int}{es:List E4}{xs:List (Bool×List Int)}{w:Nat->Nat}
theorem mem_oneEs{z:E4}:z∈oneEs xs es↔ ∃e∈es,∃lv,lv<=xs.length/\z=oneE1 xs e lv:=by
 simp only[oneEs,List.mem_flatMap,List.mem_map,List.mem_range]
 exact⟨fun⟨e,he,lv,h1,h2⟩=>⟨e,he,lv,by omega,h2.symm⟩,fun⟨e,he,lv,h1,h2⟩=>⟨e,he,lv,by omega,h2.symm⟩⟩
theorem z1E(ha:a<=300)(h:aErr (a:Int) l es xs=0)(h1:a*(xs.length+1)<=300)(h2:(oneEs xs es).length<=6000):
  aErr ((a*(xs.length+1):Nat):Int) (oneL xs.length l) (oneEs xs es) [(true,oneA xs.length a)]=0/\(oneL xs.length l).length<=300:=by
 obtain⟨_,_,_,k4,k5,k6⟩:=aErr_zero.1 h
 have r:=q0Z ha k5
 refine⟨aErr_zero.2 ⟨by simp only[btw,dE];omega,h2,by simp, ?_, ?_,fun x hx=> ?_⟩,by simpa[oneL]using r.1⟩
 ·refine List.all_eq_true.2 fun z hz=> ?_
  obtain⟨e,he,lv,hlv,rfl⟩:=mem_oneEs.1 hz
  obtain⟨⟨⟨f,f1,f2⟩,t,t1,t2⟩,⟨n,n1,n2⟩,v,v1,v2⟩:=j0B (List.all_eq_true.1 k4 e he)
  have p1:=j0N f2 (show lv<xs.length+1 by omega)
  have p2:=j0N t2 (show lev (accL xs) xs.length e.t.toNat lv<xs.length+1 by have:=q1O (acc:=accL xs) (m:=xs.length) (t:=e.t.toNat) hlv;omega)
  refine z1A ?_ ?_ ?_ ?_
  ·show 0<=e.f*((xs.length+1:Nat):Int)+lv/\e.f*((xs.length+1:Nat):Int)+lv<_
   rw[f1,<-Int.natCast_mul];omega
  ·show 0<=e.t*((xs.length+1:Nat):Int)+(lev (accL xs) xs.length e.t.toNat lv:Nat)/\e.t*((xs.length+1:Nat):Int)+(lev (accL xs) xs.length e.t.toNat lv:Nat)<_
   generalize lev (accL xs) xs.length e.t.toNat lv=q at p2
   rw[t1,<-Int.natCast_mul];omega
  ·show 0<=e.n/\e.n<=4095
   omega
  ·show 0<=e.v/\e.v<=4095
   omega
 ·rw[sErr_pw]at k5⊢
  refine⟨fun z hz=> ?_, ?_⟩
  ·obtain⟨x,hx,rfl⟩:=List.mem_map.1 hz
   obtain⟨n,rfl,hn⟩:=r.2 x hx
   have:=j0N hn (show 0<xs.length+1 by omega)
   rw[<-Int.natCast_mul];omega
  ·rw[oneL,List.pairwise_map]
   refine k5.2.imp_of_mem fun{x y} hx hy hlt=> ?_
   obtain⟨n,rfl,_⟩:=r.2 x hx
   obtain⟨m,rfl,_⟩:=r.2 y hy
   have:(n+1)*(xs.length+1)<=m*(xs.length+1):=Nat.mul_le_mul_right _ (by omega)
   rw[Nat.succ_mul]at this
   rw[<-Int.natCast_mul,<-Int.natCast_mul];omega
 ·have:x=(true,oneA xs.length a):=by simpa using hx
  subst this
  rw[sErr_pw]
  refine⟨fun z hz=> ?_, ?_⟩
  ·obtain⟨s,hs,rfl⟩:=List.mem_map.1 hz
   have:=j0N (List.mem_range.1 hs) (show xs.length<xs.length+1 by omega)
   omega
  ·show(List.map _ _).Pairwise _
   rw[List.pairwise_map]
   refine List.pairwise_lt_range.imp fun{x y} hlt=> ?_
   have:(x+1)*(xs.length+1)<=y*(xs.length+1):=Nat.mul_le_mul_right _ (by omega)
   rw[Nat.succ_mul]at this
   omega
theorem k1m(ha:a<=300)(h:aErr (a:Int) l es xs=0):Acc (auL (oneL xs.length l) (oneEs xs es) [(true,oneA xs.length a)]) w↔Acc (auL l es xs) w:=by
 obtain⟨_,_,_,k4,k5,k6⟩:=aErr_zero.1 h
 have r:=q0Z ha k5
 refine k1R (acc:=accL xs) (fun k s=>by show(s:Int)∈_↔decide _=true;rw[dE]) (fun s=> ?_) (fun i s t=> ?_) rfl (fun x lv hlv hx=> ?_)
 ·show(s:Int)∈oneL xs.length l↔ ∃x:Nat,(x:Int)∈l/\s=x*(xs.length+1)
  rw[oneL,List.mem_map]
  constructor
  ·rintro⟨x,hx,e⟩
   obtain⟨n,rfl,_⟩:=r.2 x hx
   exact⟨n,hx,by rw[<-Int.natCast_mul]at e;omega⟩
  ·rintro⟨x,hx,rfl⟩;exact⟨x,hx,by simp⟩
 ·show(∃e∈oneEs xs es,e.f=(s:Int)/\e.t=(t:Int)/\rdI e (w i:Int)=true)↔ ∃x lv x':Nat,(∃e∈es,e.f=(x:Int)/\e.t=(x':Int)/\rdI e (w i:Int)=true)/\lv<=xs.length/\s=x*(xs.length+1)+lv/\t=x'*(xs.length+1)+lev (accL xs) xs.length x' lv
  constructor
  ·rintro⟨z,hz,z1,z2,z3⟩
   obtain⟨e,he,lv,hlv,rfl⟩:=mem_oneEs.1 hz
   obtain⟨⟨⟨f,f1,f2⟩,t',t1,t2⟩,_⟩:=j0B (List.all_eq_true.1 k4 e he)
   refine⟨f,lv,t',⟨e,he,f1,t1,z3⟩,hlv, ?_, ?_⟩
   ·have:e.f*((xs.length+1:Nat):Int)+lv=(s:Int):=z1
    rw[f1,<-Int.natCast_mul]at this;omega
   ·have:e.t*((xs.length+1:Nat):Int)+(lev (accL xs) xs.length e.t.toNat lv:Nat)=(t:Int):=z2
    rw[t1,<-Int.natCast_mul,iN]at this;omega
  ·rintro⟨x,lv,x',⟨e,he,f1,t1,hr⟩,hlv,rfl,rfl⟩
   refine⟨oneE1 xs e lv,mem_oneEs.2 ⟨e,he,lv,hlv,rfl⟩, ?_, ?_,hr⟩
   ·show e.f*((xs.length+1:Nat):Int)+lv=_
    rw[f1];simp
   ·show e.t*((xs.length+1:Nat):Int)+(lev (accL xs) xs.length e.t.toNat lv:Nat)=_
    rw[t1,iN];simp
 ·obtain⟨c,x',e,he,e1,_⟩:=hx
  obtain⟨⟨⟨f,f1,f2⟩,_⟩,_⟩:=j0B (List.all_eq_true.1 k4 e he)
  have hxa:x<a:=by omega
  have hlv':lv<=xs.length:=hlv
  show((x*(xs.length+1)+lv:Nat):Int)∈oneA xs.length a↔lv=xs.length
  rw[oneA,List.mem_map]
  constructor
  ·rintro⟨s,hs,e'⟩
   have:s*(xs.length+1)+xs.length=x*(xs.length+1)+lv:=by omega
   exact(Q0C (by omega) (by omega) this).2.symm
  ·rintro rfl
   exact⟨x,List.mem_range.2 hxa,rfl⟩
end
end Go.Proofs.Ytglkhoamnmiolaa.R
