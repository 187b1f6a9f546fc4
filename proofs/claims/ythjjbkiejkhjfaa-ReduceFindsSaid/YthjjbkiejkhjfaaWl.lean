/- - -/
import Derived.Test.YthjjbkiejkhjfaaWk
set_option linter.all false
namespace Go.Proofs.Ythjjbkiejkhjfaa.R
open Go Go.Proofs.Ythjjbkiejkhjfaa.Vm
variable{M:YM}
section
variable{N:Nat}{n:Int}{b1 b2 b3:Bool}{l:List Int}{es:List E3}{u1:U}
theorem w1U(hN:N<=60)(he:es.length<=2000)(hok: ∀e∈es,eOK (N:Int) e=true){g1:U}{z0 z1 z2 z3 s a b:Int}{x y:Sx}(hx:SxI x (stepsL es s a))(hy:SxI y (stepsL es s b)){i:Nat}(hi:i<(stepsL es s a).length): ∀(d k:Nat),k+d=(stepsL es s b).length->
  y38_3 M a b (N:Int) g1 (uEs b2 es) z0 z1 z2 z3 s (i:Int) (k:Int) x y=
   match((stepsL es s b).drop k).find? (fun k=> !mB es (toOf es (stepsL es s a)[i]) b (toOf es k) a)with
   |some k=>tupC s 1 (stepsL es s a)[i] k
   |none=>y38_2 M a b (N:Int) g1 (uEs b2 es) z0 z1 z2 z3 s (IntKind.wrap .i64 ((i:Int)+1)) x y:=by
 obtain⟨ji,ei,hji,hi2,_,hia⟩:=mem_steps.1 (lM hi)
 have hlen:=q0k (es:=es) s b
 obtain⟨q1,q2⟩:=hx.get hi
 intro d
 induction d with
 |zero=>
  intro k hk
  rw[X0W,dL (by omega)]
  simp only[hy.len,show¬((k:Int)<(((stepsL es s b).length:Nat):Int)) by omega,dF,bF,iF,List.find?_nil]
 |succ d ih=>
  intro k hk
  have hlt:k<(stepsL es s b).length:=by omega
  obtain⟨jk,ek,hjk,hk2,_,hka⟩:=mem_steps.1 (lM hlt)
  obtain⟨q3,q4⟩:=hy.get hlt
  have h72:=K1u (M:=M) (N:=N) (b2:=b2) (g1:=g1) hN he hok hi2 hk2
  rw[X0W,q0c hlt,List.find?_cons]
  simp only[hy.len,show((k:Int)<(((stepsL es s b).length:Nat):Int)) by omega,dY,iT,q1,q2,q3,q4,oS,cell_c,asI_c,q0a (show k<=1000000000 by omega),ih (k+1) (by omega)]
  rw[hjk,hji]
  simp only[h72,oS,toU_val,asB_c,j0a hk2,j0a hi2,hia,hka]
  cases mB es ei.t b ek.t a<;>rfl
theorem w1V(hN:N<=60)(he:es.length<=2000)(hok: ∀e∈es,eOK (N:Int) e=true){g1:U}{z0 z1 z2 z3 s a b:Int}{x y:Sx}(hx:SxI x (stepsL es s a))(hy:SxI y (stepsL es s b)): ∀(d k:Nat),k+d=(stepsL es s a).length->
  y38_2 M a b (N:Int) g1 (uEs b2 es) z0 z1 z2 z3 s (k:Int) x y=
   match find2 (fun _=>stepsL es s b) (fun i k=>mB es (toOf es i) b (toOf es k) a) ((stepsL es s a).drop k)with
   |some (i,k)=>tupC s 1 i k
   |none=>y38_4 M a b (N:Int) g1 (uEs b2 es) z0 z1 z2 z3 s 0 x y:=by
 have hlen:=q0k (es:=es) s a
 intro d
 induction d with
 |zero=>
  intro k hk
  rw[X0V,dL (by omega)]
  simp only[hx.len,show¬((k:Int)<(((stepsL es s a).length:Nat):Int)) by omega,dF,bF,iF,find2]
 |succ d ih=>
  intro k hk
  have hlt:k<(stepsL es s a).length:=by omega
  have h3:=w1U (M:=M) (b2:=b2) (g1:=g1) (z0:=z0) (z1:=z1) (z2:=z2) (z3:=z3) hN he hok hx hy hlt _ 0 (Nat.zero_add _)
  rw[show((0:Nat):Int)=0 from rfl,List.drop_zero]at h3
  rw[X0V,q0c hlt]
  simp only[hx.len,show((k:Int)<(((stepsL es s a).length:Nat):Int)) by omega,dY,iT,h3,find2,q0a (show k<=1000000000 by omega),ih (k+1) (by omega)]
  cases List.find? (fun j=> !mB es (toOf es (stepsL es s a)[k]) b (toOf es j) a) (stepsL es s b)<;>rfl
theorem w1W(hN:N<=60)(he:es.length<=2000)(hok: ∀e∈es,eOK (N:Int) e=true){g1:U}{z0 z1 z2 z3 s a b q:Int}{x y z:Sx}(hx:SxI x (stepsL es s a))(hz:SxI z (stepsL es q b)){i:Nat}(hi:i<(stepsL es s a).length): ∀(d k:Nat),k+d=(stepsL es q b).length->
  y38_5 M a b (N:Int) g1 (uEs b2 es) z0 z1 z2 z3 s (i:Int) (k:Int) x y z=
   match((stepsL es q b).drop k).find? (fun k=> !tB es s b a (toOf es k))with
   |some k=>tupC s 2 (stepsL es s a)[i] k
   |none=>y38_4 M a b (N:Int) g1 (uEs b2 es) z0 z1 z2 z3 s (IntKind.wrap .i64 ((i:Int)+1)) x y:=by
 obtain⟨ji,ei,hji,hi2,his,hia⟩:=mem_steps.1 (lM hi)
 have hlen:=q0k (es:=es) q b
 obtain⟨q1,q2⟩:=hx.get hi
 intro d
 induction d with
 |zero=>
  intro k hk
  rw[X0Y,dL (by omega)]
  simp only[hz.len,show¬((k:Int)<(((stepsL es q b).length:Nat):Int)) by omega,dF,bF,iF,List.find?_nil]
 |succ d ih=>
  intro k hk
  have hlt:k<(stepsL es q b).length:=by omega
  obtain⟨jk,ek,hjk,hk2,_,hka⟩:=mem_steps.1 (lM hlt)
  obtain⟨q3,q4⟩:=hz.get hlt
  have h73:=Q1Y (M:=M) (N:=N) (b2:=b2) (g1:=g1) hN he hok hi2 hk2
  rw[X0Y,q0c hlt,List.find?_cons]
  simp only[hz.len,show((k:Int)<(((stepsL es q b).length:Nat):Int)) by omega,dY,iT,q1,q2,q3,q4,oS,cell_c,asI_c,q0a (show k<=1000000000 by omega),ih (k+1) (by omega)]
  rw[hjk,hji]
  simp only[h73,oS,toU_val,asB_c,j0a hk2,his,hia,hka]
  cases tB es s b a ek.t<;>rfl
theorem w1X(hN:N<=60)(he:es.length<=2000)(hok: ∀e∈es,eOK (N:Int) e=true){g1:U}{z0 z1 z2 z3 s a b:Int}{x y:Sx}(hx:SxI x (stepsL es s a)): ∀(d k:Nat),k+d=(stepsL es s a).length->
  y38_4 M a b (N:Int) g1 (uEs b2 es) z0 z1 z2 z3 s (k:Int) x y=
   match find2 (fun i=>stepsL es (toOf es i) b) (fun i k=>tB es s b a (toOf es k)) ((stepsL es s a).drop k)with
   |some (i,k)=>tupC s 2 i k
   |none=>y38_6 M a b (N:Int) g1 (uEs b2 es) z0 z1 z2 z3 s 0 0 0 0 false 0 y:=by
 have hlen:=q0k (es:=es) s a
 intro d
 induction d with
 |zero=>
  intro k hk
  rw[X0X,dL (by omega)]
  simp only[hx.len,show¬((k:Int)<(((stepsL es s a).length:Nat):Int)) by omega,dF,bF,iF,find2]
 |succ d ih=>
  intro k hk
  have hlt:k<(stepsL es s a).length:=by omega
  obtain⟨jk,ek,hjk,hk2,_⟩:=mem_steps.1 (lM hlt)
  obtain⟨q1,q2⟩:=hx.get hlt
  obtain⟨z,p1,p2⟩:=w0G (M:=M) (b2:=b2) he (g0:=(N:Int)) (x:=ek.t) (a:=b) (g1:=g1)
  have h3:=w1W (M:=M) (b2:=b2) (g1:=g1) (z0:=z0) (z1:=z1) (z2:=z2) (z3:=z3) (y:=y) hN he hok hx p2 hlt _ 0 (Nat.zero_add _)
  rw[show((0:Nat):Int)=0 from rfl,List.drop_zero]at h3
  have hto:toOf es (stepsL es s a)[k]=ek.t:=by rw[hjk];exact j0a hk2
  rw[X0X,q0c hlt]
  simp only[hx.len,show((k:Int)<(((stepsL es s a).length:Nat):Int)) by omega,dY,iT,q1,q2,oS,cell_c,asI_c,find2,hto]
  simp only[hjk,q0l hk2,oS,cell_uE1,asI_c,p1,asSl_sl]
  rw[h3,hjk]
  simp only[q0a (show k<=1000000000 by omega),ih (k+1) (by omega)]
  cases List.find? (fun j=> !tB es s b a (toOf es j)) (stepsL es ek.t b)<;>rfl
def ob0(s:Int):Option (Int×Int)->Int
 |none=>0
 |some _=>s
def ob1:Option (Int×Int)->Int
 |none=>0
 |some _=>3
def ob2:Option (Int×Int)->Int
 |none=>0
 |some x=>x.1
def ob3:Option (Int×Int)->Int
 |none=>0
 |some x=>x.2
theorem w1Y(hN:N<=60)(he:es.length<=2000)(hok: ∀e∈es,eOK (N:Int) e=true){g1:U}{z0 z1 z2 z3 s a b q:Int}{y z:Sx}(hy:SxI y (stepsL es s b))(hz:SxI z (stepsL es q a)){k:Nat}(hk:k<(stepsL es s b).length): ∀(d i:Nat) (o:Option (Int×Int)),i+d=(stepsL es q a).length->
  ∃o',y38_7 M a b (N:Int) g1 (uEs b2 es) z0 z1 z2 z3 s (ob0 s o) (ob1 o) (ob2 o) (ob3 o) o.isSome (k:Int) (i:Int) y z=
   y38_6 M a b (N:Int) g1 (uEs b2 es) z0 z1 z2 z3 s (ob0 s o') (ob1 o') (ob2 o') (ob3 o') o'.isSome (IntKind.wrap .i64 ((k:Int)+1)) y/\
   o'=((((stepsL es q a).drop i).filter fun i=> !tB es s a b (toOf es i)).map fun i=>(i,(stepsL es s b)[k])).foldl minStep o:=by
 obtain⟨jk,ek,hjk,hk2,hks,hka⟩:=mem_steps.1 (lM hk)
 have hlen:=q0k (es:=es) q a
 obtain⟨q1,q2⟩:=hy.get hk
 intro d
 induction d with
 |zero=>
  intro i o hi
  rw[Y0a,dL (by omega)]
  simp only[hz.len,show¬((i:Int)<(((stepsL es q a).length:Nat):Int)) by omega,dF,bF,iF]
  exact⟨o,rfl,rfl⟩
 |succ d ih=>
  intro i o hi
  have hlt:i<(stepsL es q a).length:=by omega
  obtain⟨ji,ei,hji,hi2,_,hia⟩:=mem_steps.1 (lM hlt)
  obtain⟨q3,q4⟩:=hz.get hlt
  have h73:=Q1Y (M:=M) (N:=N) (b2:=b2) (g1:=g1) hN he hok hk2 hi2
  rw[Y0a,q0c hlt,List.filter_cons]
  simp only[hz.len,show((i:Int)<(((stepsL es q a).length:Nat):Int)) by omega,dY,iT,q1,q2,q3,q4,oS,cell_c,asI_c,Q1D,q0a (show i<=1000000000 by omega)]
  rw[hjk,hji]
  simp only[h73,oS,toU_val,asB_c,j0a hi2,hks,hka,hia]
  have ihk:=ih (i+1)
  rw[hjk]at ihk
  cases hT:tB es s a b ei.t with
  |true=>simp only[Bool.not_true,bF,iF,oS];exact ihk o (by omega)
  |false=>
   simp only[Bool.not_false,iT,List.map_cons,List.foldl_cons]
   have hnew:=ihk (some ((ji:Int),(jk:Int))) (by omega)
   cases o with
   |none=>
    simp only[Option.isSome_none,Bool.not_false,oS,iT,Bool.true_eq_false,iF,minStep]
    exact hnew
   |some m=>
    have hold:=ihk (some m) (by omega)
    simp only[Option.isSome_some,Bool.not_true,iT,oS,ob2,ob3,minStep,less2]at hold⊢
    by_cases h1:(ji:Int)<m.1
    ·simp only[h1,dY,Bool.true_eq_false,iF,oS,iT,Bool.true_or]
     exact hnew
    ·by_cases h2:(ji:Int)=m.1
     ·by_cases h3:(jk:Int)<m.2
      ·simp only[h1,h2,h3,dY,dF,Bool.true_eq_false,iF,oS,iT,Bool.true_and,Bool.or_true,Int.lt_irrefl]
       rw[h2]at hnew
       exact hnew
      ·simp only[h1,h2,h3,dY,dF,bF,iF,oS,iT,Bool.and_false,Bool.or_false,Int.lt_irrefl]
       exact hold
     ·simp only[h1,h2,dY,dF,bF,iF,oS,iT,Bool.false_and,Bool.or_false]
      exact hold
theorem w1Z(hN:N<=60)(he:es.length<=2000)(hok: ∀e∈es,eOK (N:Int) e=true){g1:U}{z0 z1 z2 z3 s a b:Int}{y:Sx}(hy:SxI y (stepsL es s b)): ∀(d k:Nat) (o:Option (Int×Int)),k+d=(stepsL es s b).length->
  y38_6 M a b (N:Int) g1 (uEs b2 es) z0 z1 z2 z3 s (ob0 s o) (ob1 o) (ob2 o) (ob3 o) o.isSome (k:Int) y=
   match(((stepsL es s b).drop k).flatMap (pairs3 (fun k=>stepsL es (toOf es k) a) fun k i=>tB es s a b (toOf es i))).foldl minStep o with
   |some x=>tupC s 3 x.1 x.2
   |none=>y38_1 M a b (N:Int) g1 (uEs b2 es) z0 z1 z2 z3 (IntKind.wrap .i64 (s+1)):=by
 have hlen:=q0k (es:=es) s b
 intro d
 induction d with
 |zero=>
  intro k o hk
  rw[X0Z,dL (by omega)]
  simp only[hy.len,show¬((k:Int)<(((stepsL es s b).length:Nat):Int)) by omega,dF,bF,iF,List.flatMap_nil,List.foldl_nil]
  cases o<;>rfl
 |succ d ih=>
  intro k o hk
  have hlt:k<(stepsL es s b).length:=by omega
  obtain⟨jk,ek,hjk,hk2,_⟩:=mem_steps.1 (lM hlt)
  obtain⟨q1,q2⟩:=hy.get hlt
  obtain⟨z,p1,p2⟩:=w0G (M:=M) (b2:=b2) he (g0:=(N:Int)) (x:=ek.t) (a:=a) (g1:=g1)
  obtain⟨o',r1,r2⟩:=w1Y (M:=M) (b2:=b2) (g1:=g1) (z0:=z0) (z1:=z1) (z2:=z2) (z3:=z3) hN he hok hy p2 hlt _ 0 o (Nat.zero_add _)
  rw[show((0:Nat):Int)=0 from rfl]at r1
  rw[List.drop_zero]at r2
  have hto:toOf es (stepsL es s b)[k]=ek.t:=by rw[hjk];exact j0a hk2
  have hp:(((stepsL es ek.t a).filter fun i=> !tB es s a b (toOf es i)).map fun i=>(i,(stepsL es s b)[k]))=pairs3 (fun k=>stepsL es (toOf es k) a) (fun k i=>tB es s a b (toOf es i)) (stepsL es s b)[k]:=by
   simp only[pairs3,hto]
  rw[hp]at r2
  rw[X0Z,q0c hlt,List.flatMap_cons,List.foldl_append,<-r2]
  simp only[hy.len,show((k:Int)<(((stepsL es s b).length:Nat):Int)) by omega,dY,iT,q1,q2,oS,cell_c,asI_c]
  simp only[hjk,q0l hk2,oS,cell_uE1,asI_c,p1,asSl_sl]
  rw[r1,q0a (show k<=1000000000 by omega),ih (k+1) o' (by omega)]
theorem Q1a(hN:N<=60)(he:es.length<=2000)(hok: ∀e∈es,eOK (N:Int) e=true){g1:U}{z0 z1 z2 z3 a b:Int}: ∀(d s:Nat),s+d=N->
  y38_1 M a b (N:Int) g1 (uEs b2 es) z0 z1 z2 z3 (s:Int)=resC (clashL es a b d s):=by
 intro d
 induction d with
 |zero=>
  intro s hs
  rw[X0U]
  simp only[show¬((s:Int)<(N:Int)) by omega,dF,bF,iF,clashL,resC]
  rfl
 |succ d ih=>
  intro s hs
  obtain⟨x,p1,p2⟩:=w0G (M:=M) (b2:=b2) he (g0:=(N:Int)) (x:=(s:Int)) (a:=a) (g1:=g1)
  obtain⟨y,p3,p4⟩:=w0G (M:=M) (b2:=b2) he (g0:=(N:Int)) (x:=(s:Int)) (a:=b) (g1:=g1)
  have h2:=w1V (M:=M) (b2:=b2) (g1:=g1) (z0:=z0) (z1:=z1) (z2:=z2) (z3:=z3) hN he hok p2 p4 _ 0 (Nat.zero_add _)
  have h4:=w1X (M:=M) (b2:=b2) (g1:=g1) (z0:=z0) (z1:=z1) (z2:=z2) (z3:=z3) (b:=b) (y:=y) hN he hok p2 _ 0 (Nat.zero_add _)
  have h6:=w1Z (M:=M) (b2:=b2) (g1:=g1) (z0:=z0) (z1:=z1) (z2:=z2) (z3:=z3) (a:=a) hN he hok p4 _ 0 none (Nat.zero_add _)
  rw[show((0:Nat):Int)=0 from rfl,List.drop_zero]at h2 h4 h6
  simp only[ob0,ob1,ob2,ob3,Option.isSome_none]at h6
  rw[X0U]
  simp only[show((s:Int)<(N:Int)) by omega,dY,iT,p1,p3,asSl_sl,oS,p2.len,p4.len,q0a (show s<=1000000000 by omega),ih (s+1) (by omega)]at h2 h4 h6⊢
  rw[h2,h4,h6]
  simp only[clashL,clashAt]
  cases hA:stepsL es (s:Int) a with
  |nil=>simp
  |cons u la=>
   cases hB:stepsL es (s:Int) b with
   |nil=>simp[show¬((la.length:Int)+1=0) by omega]
   |cons w lb=>
    have e1:(((u::la).length:Int)=0)=False:=by simp;omega
    have e2:(((w::lb).length:Int)=0)=False:=by simp;omega
    simp only[e1,e2,dF,iT,bF,iF,List.isEmpty_cons,Bool.or_false,oS]
    cases find2 (fun _=>w::lb) (fun i k=>mB es (toOf es i) b (toOf es k) a) (u::la)with
    |some p=>rfl
    |none=>
     cases find2 (fun i=>stepsL es (toOf es i) b) (fun i k=>tB es (s:Int) b a (toOf es k)) (u::la)with
     |some p=>rfl
     |none=>
      cases((w::lb).flatMap (pairs3 (fun k=>stepsL es (toOf es k) a) fun k i=>tB es (s:Int) a b (toOf es i))).foldl minStep none<;>rfl
theorem K1N(hN:N<=60)(he:es.length<=2000)(hok: ∀e∈es,eOK (N:Int) e=true){g1:U}{a b:Int}:y38 M (N:Int) g1 (uEs b2 es) a b=resC (clashL es a b N 0):=by
 have:=Q1a (M:=M) (b2:=b2) (g1:=g1) (z0:=0) (z1:=0) (z2:=0) (z3:=0) hN he hok (a:=a) (b:=b) N 0 (by omega)
 rw[show((0:Nat):Int)=0 from rfl]at this
 rw[W1i]
 exact this
end
end Go.Proofs.Ythjjbkiejkhjfaa.R
