/- - -/
import Derived.Test.YtglkhoamnmiolaaKh
import Derived.Test.YtglkhoamnmiolaaTf
set_option linter.all false
namespace Go.Proofs.Ytglkhoamnmiolaa.R
open Go Go.Proofs.Ytglkhoamnmiolaa.Vm
theorem k0H(n:Nat)(b:Bool):(List.replicate n (.c (.bool b)):List U)=uBs (List.replicate n b):=by simp[uBs]
theorem z0w{l:List Bool}{k c:Nat}{b:Bool}(hk:k<l.length):inB (l.set k b) c↔(c=k/\b=true)\/(c≠k/\inB l c):=by
 unfold inB
 rw[List.getElem?_set]
 by_cases e:k=c
 ·subst e;rw[if_pos rfl,if_pos hk];simp
 ·rw[if_neg e]
  exact⟨fun h=> .inr ⟨fun h=>e h.symm,h⟩,fun h=>h.elim (fun h=>absurd h.1.symm e) (·.2)⟩
theorem j0d{l:List Bool}{k:Nat}(hk:k<l.length):l[k]? =some (l[k])/\(inB l k↔l[k]=true):=by
 refine⟨q0a hk, ?_⟩
 unfold inB
 rw[q0a hk]
 simp
theorem q0R{n c:Nat}: ¬inB (List.replicate n false) c:=by
 unfold inB
 rw[List.getElem?_replicate]
 split<;>simp
def InP(rows:List (Bool×List Int))(of:Nat->Nat)(v k c:Nat):Prop:=
 ∃u j r w,rows[u]? =some r/\r.2[j]? =some ((w:Nat):Int)/\(u<v\/(u=v/\j<k))/\of u=c/\of w=c
theorem z1p{rows:List (Bool×List Int)}{of:Nat->Nat}{v k c w:Nat}{r:Bool×List Int}(hr:rows[v]? =some r)(hk:r.2[k]? =some ((w:Nat):Int)):
  InP rows of v (k+1) c↔InP rows of v k c\/(of v=c/\of w=c):=by
 constructor
 ·rintro⟨u,j,r',w',h1,h2,h3,h4,h5⟩
  by_cases e:u=v/\j=k
  ·obtain⟨rfl,rfl⟩:=e
   rw[hr]at h1;cases h1
   rw[hk]at h2
   have:w=w':=by injection h2 with h2;omega
   subst this
   exact .inr ⟨h4,h5⟩
  ·exact .inl ⟨u,j,r',w',h1,h2,by omega,h4,h5⟩
 ·rintro(⟨u,j,r',w',h1,h2,h3,h4,h5⟩ |⟨h4,h5⟩)
  ·exact⟨u,j,r',w',h1,h2,by omega,h4,h5⟩
  ·exact⟨v,k,r,w,hr,hk,by omega,h4,h5⟩
theorem w1J{rows:List (Bool×List Int)}{of:Nat->Nat}{v k c:Nat}{r:Bool×List Int}(hr:rows[v]? =some r)(hk:k=r.2.length):InP rows of (v+1) 0 c↔InP rows of v k c:=by
 constructor
 ·rintro⟨u,j,r',w',h1,h2,h3,h4,h5⟩
  refine⟨u,j,r',w',h1,h2, ?_,h4,h5⟩
  by_cases e:u=v
  ·subst e
   rw[hr]at h1;cases h1
   have:=(gE.1 h2).1
   omega
  ·omega
 ·rintro⟨u,j,r',w',h1,h2,h3,h4,h5⟩
  exact⟨u,j,r',w',h1,h2,by omega,h4,h5⟩
theorem Y0M(b:Bool)(ls:List (List Bool)):U.len (.sl b (ls.map setU))=some ls.length:=by simp[U.len,U.asL]
theorem z1q{b:Bool}{ls:List (List Bool)}{k:Nat}{l:List Bool}(h:ls[k]? =some l):U.idx 1 (.sl b (ls.map setU)) (k:Int)=some (setU l):=by
 simp[U.idx,U.asL,elU,h,setU,U.size,U.cells]
section
variable{M:YM}{n:Nat}{rows:List (Bool×List Int)}{of:Nat->Nat}{ofs:List Int}{b1 b2 b3:Bool}{ls:List (List Bool)}
variable(hT:Table n rows)(hn:n<=1000000)(hol:ofs.length=n)(hof: ∀x,x<n->ofs[x]? =some ((of x:Nat):Int))
include hT hn hol hof
theorem z1r(hN: ∀x,x<n->of x<1000000){sets:U}: ∀(d i N:Nat),i+d=n->N<=1000000->(∀x,x<i->of x<N)->
  ∃N',N'<=1000000/\(∀x,x<n->of x<N')/\y92_1 M (uLs b1 rows) (uIs b2 ofs) sets (N:Int) (uIs b2 ofs) (n:Int) (i:Int)=y92_2 M (uLs b1 rows) (uIs b2 ofs) sets (N':Int) (uLs b1 rows) (n:Int) 0 ⟨true,1,uBs (List.replicate N' false)⟩:=by
 intro d
 induction d with
 |zero=>
  intro i N hi hN1 hx
  refine⟨N,hN1,fun x hx'=>hx x (by omega), ?_⟩
  rw[K0U]
  simp only[show¬((i:Int)<(n:Int)) by omega,dF,bF,iF,len_uLs,hT.1,oS,k0H,iN]
  rw[if_pos ⟨by omega,by omega,trivial⟩]
 |succ d ih=>
  intro i N hi hN1 hx
  have hin:i<n:=by omega
  have hb:=hN i hin
  obtain⟨N',h1,h2,h3⟩:=ih (i+1) (max N (of i+1)) (by omega) (by omega) (fun x hx'=>by
   by_cases e:x=i
   ·subst e;omega
   ·have:=hx x (by omega);omega)
  refine⟨N',h1,h2, ?_⟩
  rw[K0U,<-h3]
  have e1:(if((of i+1:Nat):Int)>(N:Int)then((of i+1:Nat):Int)else(N:Int))=((max N (of i+1):Nat):Int):=by split<;>omega
  simp only[show((i:Int)<(n:Int)) by omega,dY,iT,q0w (hof i hin),oS,cell_c,asI_c,q0b (show of i<=1000000000 by omega),e1,q0b (show i<=1000000000 by omega)]
variable{N:Nat}(hN: ∀x,x<n->of x<N)(hN1:N<=1000000)
include hN hN1
theorem z1s{sets:U}{v:Nat}(hv:v<n){r:Bool×List Int}(hr:rows[v]? =some r): ∀(d k:Nat) (l:List Bool),k+d=r.2.length->l.length=N->(∀c,inB l c↔InP rows of v k c)->
  ∃l',l'.length=N/\(∀c,inB l' c↔InP rows of (v+1) 0 c)/\y92_3 M (uLs b1 rows) (uIs b2 ofs) sets (N:Int) (v:Int) (uLs b1 rows) (n:Int) (v:Int) (uIs r.1 r.2) (r.2.length:Int) (k:Int) ⟨true,1,uBs l⟩=y92_2 M (uLs b1 rows) (uIs b2 ofs) sets (N:Int) (uLs b1 rows) (n:Int) ((v+1:Nat):Int) ⟨true,1,uBs l'⟩:=by
 have hrl:=w0A hT hr
 intro d
 induction d with
 |zero=>
  intro k l hk hl hx
  refine⟨l,hl,fun c=>(hx c).trans (w1J hr (by omega)).symm, ?_⟩
  rw[K0W]
  simp only[show¬((k:Int)<(r.2.length:Int)) by omega,dF,bF,iF,q0b (show v<=1000000000 by omega)]
 |succ d ih=>
  intro k l hk hl hx
  have hkl:k<r.2.length:=by omega
  have hg:r.2[k]? =some r.2[k]:=q0a hkl
  obtain⟨g1,g2⟩:=hT.2.1 r (List.mem_of_getElem? hr) _ (lM hkl)
  obtain⟨w,hw⟩:=iZ g1
  have hwn:w<n:=by omega
  rw[hw]at hg
  have hc:of v<l.length:=by rw[hl];exact hN v hv
  obtain⟨a1,a2⟩:=j0d hc
  let q:Bool:=if l[of v]=false then decide (((of v:Nat):Int)=((of w:Nat):Int))else l[of v]
  have hq:q=true↔inB l (of v)\/of v=of w:=by
   rw[a2]
   show(if l[of v]=false then _ else _)=true↔_
   cases h:l[of v]
   ·simp;omega
   ·simp
  obtain⟨l',h1,h2,h3⟩:=ih (k+1) (l.set (of v) q) (by omega) (by rw[List.length_set];exact hl) (fun c=>by
   rw[z0w hc,z1p hr hg,hq,hx,hx]
   constructor
   ·rintro(⟨rfl,h |h⟩ |⟨_,h⟩)
    ·exact .inl h
    ·exact .inr ⟨rfl,h.symm⟩
    ·exact .inl h
   ·rintro(h |⟨h,h'⟩)
    ·by_cases e:c=of v
     ·subst e;exact .inl ⟨rfl, .inl h⟩
     ·exact .inr ⟨e,h⟩
    ·exact .inl ⟨h.symm, .inr (by omega)⟩)
  refine⟨l',h1,h2, ?_⟩
  rw[K0W,<-h3]
  have e1:(((uBs l)[of v]?).bind fun v10=>(v10.cell 0).bind fun c11=>c11.asB.bind fun b12=>(if b12=false then some (decide (((of v:Nat):Int)=((of w:Nat):Int)))else some b12))=some q:=by
   rw[j0k a1]
   simp only[oS,cell_c,asB_c]
   show _=some (if _ then _ else _)
   split<;>rfl
  simp only[show((k:Int)<(r.2.length:Int)) by omega,dY,iT,q0w hg,q0w (hof v hv),q0w (hof w hwn),oS,cell_c,asI_c,q0M hc,iN,j0k a1,asB_c,q0b (show k<=1000000000 by omega)]
  cases h:l[of v]
  ·have hqe:q=decide (((of v:Nat):Int)=((of w:Nat):Int)):=by show(if l[of v]=false then _ else _)=_;rw[if_pos h]
   simp only[iT,oS,q0T hc,hqe]
  ·have hqe:q=true:=by show(if l[of v]=false then _ else _)=_;rw[h];simp
   simp only[Bool.true_eq_false,iF,oS,q0T hc,hqe]
theorem z1t{sets:U}: ∀(d v:Nat) (l:List Bool),v+d=n->l.length=N->(∀c,inB l c↔InP rows of v 0 c)->
  ∃l',l'.length=N/\(∀c,inB l' c↔InP rows of n 0 c)/\ ∀k4,U.len sets=some k4->y92_2 M (uLs b1 rows) (uIs b2 ofs) sets (N:Int) (uLs b1 rows) (n:Int) (v:Int) ⟨true,1,uBs l⟩=y92_4 M (uLs b1 rows) (uIs b2 ofs) (N:Int) sets (k4:Int) 0 ⟨true,1,uBs l'⟩:=by
 intro d
 induction d with
 |zero=>
  intro v l hv hl hx
  obtain rfl:v=n:=by omega
  refine⟨l,hl,hx,fun k4 hk=> ?_⟩
  rw[K0V]
  simp only[Int.lt_irrefl,dF,bF,iF,hk,oS]
 |succ d ih=>
  intro v l hv hl hx
  have hvn:v<n:=by omega
  have hr:rows[v]? =some (rows[v]'(by rw[hT.1];exact hvn)):=q0a (by rw[hT.1];exact hvn)
  obtain⟨l1,a1,a2,a3⟩:=z1s hT hn hol hof hN hN1 (M:=M) (b1:=b1) (b2:=b2) (sets:=sets) hvn hr _ 0 l (Nat.zero_add _) hl hx
  obtain⟨l',h1,h2,h3⟩:=ih (v+1) l1 (by omega) a1 a2
  refine⟨l',h1,h2,fun k4 hk=> ?_⟩
  rw[K0V]
  simp only[show((v:Int)<(n:Int)) by omega,dY,iT,q0W hr,oS,cell_uIs,len_uIs]
  rw[<-h3 k4 hk,<-a3]
  rfl
theorem z1u{ls':U}{k4 k:Nat}{h:List Bool}(hh:h.length=N){l0:List Bool}: ∀(d i:Nat) (l:List Bool),i+d=N->l.length=N->(∀c,inB l c↔inB l0 c/\(c<i->inB h c))->l0.length=N->
  ∃l',l'.length=N/\(∀c,inB l' c↔inB l0 c/\inB h c)/\y92_6 M (uLs b1 rows) (uIs b2 ofs) (N:Int) ls' (k4:Int) (k:Int) (N:Int) (i:Int) ⟨true,1,uBs l⟩ ⟨true,1,uBs h⟩=y92_4 M (uLs b1 rows) (uIs b2 ofs) (N:Int) ls' (k4:Int) (IntKind.wrap .i64 ((k:Int)+1)) ⟨true,1,uBs l'⟩:=by
 intro d
 induction d with
 |zero=>
  intro i l hi hl hx hl0
  refine⟨l,hl,fun c=>(hx c).trans ⟨fun g=>⟨g.1,g.2 ?_⟩,fun g=>⟨g.1,fun _=>g.2⟩⟩, ?_⟩
  ·have:=(gE.1 g.1).1;omega
  ·rw[W0a]
   simp only[show¬((i:Int)<(N:Int)) by omega,dF,bF,iF]
 |succ d ih=>
  intro i l hi hl hx hl0
  have hc:i<l.length:=by omega
  have hc2:i<h.length:=by omega
  obtain⟨a1,a2⟩:=j0d hc
  obtain⟨c1,c2⟩:=j0d hc2
  obtain⟨l',h1,h2,h3⟩:=ih (i+1) (l.set i (l[i]&&h[i])) (by omega) (by rw[List.length_set];exact hl) (fun c=>by
   rw[z0w hc,bA,<-a2,<-c2,hx]
   constructor
   ·rintro(⟨rfl,⟨g1,g2⟩,g3⟩ |⟨g0,g1⟩)
    ·exact⟨g1,fun _=>g3⟩
    ·have g2:=(hx c).1 g1
     exact⟨g2.1,fun g3=>g2.2 (by omega)⟩
   ·rintro⟨g1,g2⟩
    by_cases e:c=i
    ·subst e;exact .inl ⟨rfl,⟨g1,fun g=>absurd g (Nat.lt_irrefl _)⟩,g2 (by omega)⟩
    ·exact .inr ⟨e,(hx c).2 ⟨g1,fun g=>g2 (by omega)⟩⟩) hl0
  refine⟨l',h1,h2, ?_⟩
  rw[W0a,<-h3]
  simp only[show((i:Int)<(N:Int)) by omega,dY,iT,q0M hc,q0M hc2,iN,j0k a1,j0k c1,oS,cell_c,asB_c,q0b (show i<=1000000000 by omega)]
  cases e:l[i]
  ·simp only[bF,iF,oS,q0T hc,Bool.false_and]
  ·simp only[iT,oS,q0T hc,Bool.true_and]
theorem z1v{ls':U}{k4 k:Nat}{s l0:List Bool}(hs:s.length=n)(hl0:l0.length=N): ∀(d v:Nat) (h:List Bool),v+d=n->h.length=N->(∀c,inB h c↔ ∃u,u<v/\of u=c/\inB s u)->
  ∃l',l'.length=N/\(∀c,inB l' c↔inB l0 c/\ ∃u,u<n/\of u=c/\inB s u)/\y92_5 M (uLs b1 rows) (uIs b2 ofs) (N:Int) (setU s) ls' (k4:Int) (k:Int) (n:Int) (v:Int) ⟨true,1,uBs l0⟩ ⟨true,1,uBs h⟩=y92_4 M (uLs b1 rows) (uIs b2 ofs) (N:Int) ls' (k4:Int) (IntKind.wrap .i64 ((k:Int)+1)) ⟨true,1,uBs l'⟩:=by
 intro d
 induction d with
 |zero=>
  intro v h hv hh hx
  obtain rfl:v=n:=by omega
  obtain⟨l',h1,h2,h3⟩:=z1u hT hn hol hof hN hN1 (M:=M) (b1:=b1) (b2:=b2) (ls':=ls') (k4:=k4) (k:=k) hh (l0:=l0) N 0 l0 (by omega) hl0 (fun c=>⟨fun g=>⟨g,fun g'=>absurd g' (Nat.not_lt_zero _)⟩,(·.1)⟩) hl0
  refine⟨l',h1,fun c=>by rw[h2,hx], ?_⟩
  rw[K0Y]
  simp only[Int.lt_irrefl,dF,bF,iF,uBs_length,hl0]
  exact h3
 |succ d ih=>
  intro v h hv hh hx
  have hvn:v<n:=by omega
  have hc:of v<h.length:=by rw[hh];exact hN v hvn
  have hc2:v<s.length:=by omega
  obtain⟨a1,a2⟩:=j0d hc
  obtain⟨c1,c2⟩:=j0d hc2
  obtain⟨l',h1,h2,h3⟩:=ih (v+1) (h.set (of v) (h[of v]||s[v])) (by omega) (by rw[List.length_set];exact hh) (fun c=>by
   rw[z0w hc,Bool.or_eq_true,<-a2,<-c2]
   constructor
   ·rintro(⟨rfl,g |g⟩ |⟨g0,g⟩)
    ·obtain⟨u,u1,u2,u3⟩:=(hx _).1 g;exact⟨u,by omega,u2,u3⟩
    ·exact⟨v,by omega,rfl,g⟩
    ·obtain⟨u,u1,u2,u3⟩:=(hx _).1 g;exact⟨u,by omega,u2,u3⟩
   ·rintro⟨u,u1,u2,u3⟩
    by_cases e:u=v
    ·subst e;exact .inl ⟨u2.symm, .inr u3⟩
    ·have g:=(hx c).2 ⟨u,by omega,u2,u3⟩
     by_cases e2:c=of v
     ·subst e2;exact .inl ⟨rfl, .inl g⟩
     ·exact .inr ⟨e2,g⟩)
  refine⟨l',h1,h2, ?_⟩
  rw[K0Y,<-h3]
  simp only[show((v:Int)<(n:Int)) by omega,dY,iT,q0w (hof v hvn),oS,cell_c,asI_c,q0M hc,iN,j0k a1,asB_c,setU,z0q c1,q0b (show v<=1000000000 by omega)]
  cases e:h[of v]
  ·simp only[iT,oS,q0T hc,Bool.false_or]
  ·simp only[Bool.true_eq_false,iF,oS,q0T hc,Bool.true_or]
theorem z1w{l:List Bool}(hl:l.length=N): ∀(d v:Nat) (out:List Bool),v+d=n->out.length=n->(∀x,inB out x↔x<v/\inB l (of x))->
  ∃out',out'.length=n/\(∀x,inB out' x↔x<n/\inB l (of x))/\y92_7 M (uIs b2 ofs) (n:Int) (v:Int) ⟨true,1,uBs l⟩ ⟨true,1,uBs out⟩=some (.sl ⟨true,1,uBs out'⟩):=by
 intro d
 induction d with
 |zero=>
  intro v out hv ho hx
  obtain rfl:v=n:=by omega
  refine⟨out,ho,hx, ?_⟩
  rw[K0Z]
  simp only[Int.lt_irrefl,dF,bF,iF,q0S,iT]
 |succ d ih=>
  intro v out hv ho hx
  have hvn:v<n:=by omega
  have hc:of v<l.length:=by rw[hl];exact hN v hvn
  have hc2:v<out.length:=by omega
  obtain⟨a1,a2⟩:=j0d hc
  obtain⟨l',h1,h2,h3⟩:=ih (v+1) (out.set v l[of v]) (by omega) (by rw[List.length_set];exact ho) (fun c=>by
   rw[z0w hc2,<-a2,hx]
   constructor
   ·rintro(⟨rfl,g⟩ |⟨g0,g1,g2⟩)
    ·exact⟨by omega,g⟩
    ·exact⟨by omega,g2⟩
   ·rintro⟨g1,g2⟩
    by_cases e:c=v
    ·subst e;exact .inl ⟨rfl,g2⟩
    ·exact .inr ⟨e,by omega,g2⟩)
  refine⟨l',h1,h2, ?_⟩
  rw[K0Z,<-h3]
  simp only[show((v:Int)<(n:Int)) by omega,dY,iT,q0w (hof v hvn),oS,cell_c,asI_c,q0M hc,q0M hc2,iN,j0k a1,asB_c,q0T hc2,q0b (show v<=1000000000 by omega)]
theorem z1x(hs: ∀l∈ls,l.length=n)(hm:ls.length<=1000000): ∀(d k:Nat) (l:List Bool),k+d=ls.length->l.length=N->(∀c,inB l c↔InP rows of n 0 c/\ ∀j T,j<k->ls[j]? =some T-> ∃u,u<n/\of u=c/\inB T u)->
  ∃out,out.length=n/\(∀x,inB out x↔x<n/\InP rows of n 0 (of x)/\ ∀(j:Nat) (T:List Bool),ls[j]? =some T-> ∃u,u<n/\of u=of x/\inB T u)/\y92_4 M (uLs b1 rows) (uIs b2 ofs) (N:Int) (.sl b3 (ls.map setU)) (ls.length:Int) (k:Int) ⟨true,1,uBs l⟩=some (.sl ⟨true,1,uBs out⟩):=by
 intro d
 induction d with
 |zero=>
  intro k l hk hl hx
  obtain⟨out,h1,h2,h3⟩:=z1w hT hn hol hof hN hN1 (M:=M) (b2:=b2) hl n 0 (List.replicate n false) (by omega) (by simp) (fun x=>⟨fun h=>absurd h q0R,fun h=>absurd h.1 (Nat.not_lt_zero _)⟩)
  refine⟨out,h1,fun x=>(h2 x).trans ?_, ?_⟩
  ·rw[hx]
   constructor
   ·rintro⟨g0,g1,g2⟩
    refine⟨g0,g1,fun j T hj=> ?_⟩
    have hjl:=(gE.1 hj).1
    exact g2 j T (by omega) hj
   ·rintro⟨g0,g1,g2⟩
    exact⟨g0,g1,fun j T _ hj=>g2 j T hj⟩
  ·rw[K0X]
   simp only[show¬((k:Int)<(ls.length:Int)) by omega,dF,bF,iF,len_uLs,hT.1,oS,k0H,iN]
   rw[if_pos ⟨by omega,by omega,trivial⟩]
   exact h3
 |succ d ih=>
  intro k l hk hl hx
  have hkl:k<ls.length:=by omega
  have hg:ls[k]? =some ls[k]:=q0a hkl
  obtain⟨l1,a1,a2,a3⟩:=z1v hT hn hol hof hN hN1 (M:=M) (b1:=b1) (b2:=b2) (ls':= .sl b3 (ls.map setU)) (k4:=ls.length) (k:=k) (hs _ (lM hkl)) hl n 0 (List.replicate N false) (by omega) (by simp) (fun c=>⟨fun h=>absurd h q0R,fun⟨u,h,_⟩=>absurd h (Nat.not_lt_zero _)⟩)
  obtain⟨out,h1,h2,h3⟩:=ih (k+1) l1 (by omega) a1 (fun c=>by
   rw[a2,hx]
   constructor
   ·rintro⟨⟨g1,g2⟩,g3⟩
    refine⟨g1,fun j T hj hT'=> ?_⟩
    by_cases e:j=k
    ·subst e;rw[hg]at hT';cases hT';exact g3
    ·exact g2 j T (by omega) hT'
   ·rintro⟨g1,g2⟩
    exact⟨⟨g1,fun j T hj hT'=>g2 j T (by omega) hT'⟩,g2 k _ (by omega) hg⟩)
  refine⟨out,h1,h2, ?_⟩
  rw[K0X,<-h3]
  simp only[show((k:Int)<(ls.length:Int)) by omega,dY,iT,z1q hg,oS,len_uLs,hT.1,k0H,iN,show U.cell (setU ls[k]) 0=some (setU ls[k])from rfl]
  rw[if_pos ⟨by omega,by omega,trivial⟩,<-q0b (show k<=1000000000 by omega)]
  exact a3
end
end Go.Proofs.Ytglkhoamnmiolaa.R
