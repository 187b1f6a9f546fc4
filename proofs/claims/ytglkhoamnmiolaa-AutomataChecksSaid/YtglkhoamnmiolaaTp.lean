/- - -/
import Derived.Test.YtglkhoamnmiolaaTo
set_option linter.all false
namespace Go.Proofs.Ytglkhoamnmiolaa.R
open Go Go.Proofs.Ytglkhoamnmiolaa.Vm
section
variable{M:YM}
theorem J0o{b b':Bool}{l:List Int}(hl:l.length<=1000000):y31 M (uIs b l) (uIs b' l)=some (.val (.c (.bool true))):=by
 have key: ∀(d i:Nat),i+d=l.length->y31_1 M (uIs b l) (uIs b' l) (i:Int)=some (.val (.c (.bool true))):=by
  intro d
  induction d with
  |zero=>
   intro i hi
   rw[K0D]
   simp only[len_uIs,oS,show¬((i:Int)<((l.length:Nat):Int)) by omega,dF,bF,iF]
  |succ d ih=>
   intro i hi
   have hg:l[i]? =some (l[i]'(by omega)):=q0a (by omega)
   rw[K0D]
   simp only[len_uIs,oS,show((i:Int)<((l.length:Nat):Int)) by omega,dY,iT,q0w hg,cell_c,asI_c,Bool.not_true,bF,iF,q0b (show i<=1000000000 by omega)]
   exact ih (i+1) (by omega)
 rw[Q1A]
 simp only[len_uIs,oS,dY,Bool.not_true,bF,iF]
 exact key l.length 0 (by omega)
theorem k1i{b b':Bool}{xs:List (Bool×List Int)}(hn:xs.length<=1000000)(hx: ∀x∈xs,x.2.length<=1000000):y67 M (uLs b xs) (uLs b' xs)=some (.val (.c (.bool true))):=by
 have key: ∀(d i:Nat),i+d=xs.length->y67_1 M (uLs b xs) (uLs b' xs) (i:Int)=some (.val (.c (.bool true))):=by
  intro d
  induction d with
  |zero=>
   intro i hi
   rw[K0K]
   simp only[len_uLs,oS,show¬((i:Int)<((xs.length:Nat):Int)) by omega,dF,bF,iF]
  |succ d ih=>
   intro i hi
   have hlt:i<xs.length:=by omega
   have hg:xs[i]? =some xs[i]:=q0a hlt
   rw[K0K]
   simp only[len_uLs,oS,show((i:Int)<((xs.length:Nat):Int)) by omega,dY,iT,q0W hg,cell_uIs,J0o (hx _ (lM hlt)),toU_val,asB_c,Bool.not_true,bF,iF,q0b (show i<=1000000000 by omega)]
   exact ih (i+1) (by omega)
 rw[Q1M]
 simp only[len_uLs,oS,dY,Bool.not_true,bF,iF]
 exact key xs.length 0 (by omega)
theorem k1j(e:E4):eqUs ks0 (.st [.c (.int .i64 e.f), .c (.int .i64 e.t), .c (.int .i64 e.n), .c (.int .i64 e.v)]:U) (.st [.c (.int .i64 e.f), .c (.int .i64 e.t), .c (.int .i64 e.n), .c (.int .i64 e.v)]:U)=some true:=by
 simp[eqUs,ks0,U.asCs,flats,U.asC,eqKs,eqK,C.asI]
theorem W0S{n:Int}{b1 b2 b3 d1 d2 d3:Bool}{l:List Int}{es:List E4}{xs:List (Bool×List Int)}(hl:l.length<=1000000)(he:es.length<=1000000)(hn:xs.length<=1000000)(hx: ∀x∈xs,x.2.length<=1000000):
  y30 M n (uIs b1 l) (uEs b2 es) (uLs b3 xs) n (uIs d1 l) (uEs d2 es) (uLs d3 xs)=some (.val (.c (.bool true))):=by
 have key: ∀(d i:Nat),i+d=es.length->y30_1 M n (uIs b1 l) (uEs b2 es) (uLs b3 xs) n (uIs d1 l) (uEs d2 es) (uLs d3 xs) (i:Int)=some (.val (.c (.bool true))):=by
  intro d
  induction d with
  |zero=>
   intro i hi
   rw[K0C]
   simp only[len_uEs,oS,show¬((i:Int)<((es.length:Nat):Int)) by omega,dF,bF,iF]
  |succ d ih=>
   intro i hi
   have hlt:i<es.length:=by omega
   have hg:es[i]? =some es[i]:=q0a hlt
   obtain⟨f,f0,f1,f2,f3,f4⟩:=j0V es[i]
   rw[K0C]
   simp only[len_uEs,oS,show((i:Int)<((es.length:Nat):Int)) by omega,dY,iT,k0R hg,f0,f1,f2,f3,f4,i_uI,k1j,bne_self_eq_false,bF,iF,q0b (show i<=1000000000 by omega)]
   exact ih (i+1) (by omega)
 rw[Q1z]
 simp only[dY,Bool.not_true,iT,J0o hl,oS,toU_val,asB_c,len_uEs,k1i hn hx,bF,iF]
 exact key es.length 0 (by omega)
end
def nmF(P:List Bool)(i:Nat)(v:Nat):Int:=if v<i/\P.getD v false=true then((oldL P v).length:Int)else 0
def refK(P:List Bool)(a:Nat)(l:List Int):List Int:=(l.filter fun s=>P.getD s.toNat false).map fun s=>nmF P a s.toNat
theorem q1E{P:List Bool}{a v:Nat}(h:v<a):(!decide (numF P a v= -1))=P.getD v false:=by
 unfold numF
 cases e:P.getD v false with
 |false=>simp
 |true=>rw[if_pos ⟨h,rfl⟩];simp
theorem q1F{P:List Bool}{a v:Nat}(h:v<a)(hp:P.getD v false=true):numF P a v=nmF P a v:=by
 unfold numF nmF
 rw[if_pos ⟨h,hp⟩,if_pos ⟨h,hp⟩]
theorem Z0Z{P:List Bool}{a:Nat}: ∀{l:List Int},(∀s∈l,0<=s/\s<(a:Int))->refK P a l=keptL (numF P a) l
 | [],_=>rfl
 |s::l,h=>by
  have hs:=h s (by simp)
  have ih:=Z0Z (P:=P) (a:=a) (l:=l) fun x hx=>h x (by simp[hx])
  have hv:s.toNat<a:=by omega
  unfold refK keptL at ih⊢
  rw[List.filter_cons,List.filter_cons,q1E hv]
  cases e:P.getD s.toNat false with
  |false=>simpa using ih
  |true=>simp only[iT,List.map_cons,ih,q1F hv e]
theorem k1k{l:List Int}{k:Nat}{x:Int}(h:k<l.length):Sx.put (⟨true,1,l.map uI⟩:Sx) 1 k 0 (uI x)=some ⟨true,1,(l.set k x).map uI⟩:=by
 have h1:(uI x).size=1:=rfl
 have h2:k<(l.map uI).length:=by rw[List.length_map];exact h
 unfold Sx.put
 rw[if_pos ⟨rfl,rfl⟩,if_pos ⟨h1,h2⟩]
 simp[List.map_set]
theorem J0p{l:List Int}{k:Nat}(h:k<l.length):Sx.has (⟨true,1,l.map uI⟩:Sx) 1 (k:Int)=true:=by
 simp[Sx.has];omega
theorem q1G{P:List Bool}{a:Nat}{l:List Int}{i:Nat}{x:Int}(h:l[i]? =some x):refK P a (l.take (i+1))=refK P a (l.take i)++(if P.getD x.toNat false=true then [nmF P a x.toNat]else []):=by
 rw[List.take_add_one,h]
 unfold refK
 rw[Option.toList_some,List.filter_append,List.map_append]
 congr 1
 by_cases e:P.getD x.toNat false=true
 ·rw[if_pos e];simp only[List.filter_cons,e,iT,List.filter_nil,List.map_cons,List.map_nil]
 ·rw[if_neg e];simp only[List.filter_cons,e,iF,List.filter_nil,List.map_nil];rfl
theorem k1l(P:List Bool)(a:Nat)(l:List Int):(refK P a l).length<=l.length:=by rw[refK,List.length_map];exact List.length_filter_le _ _
section
variable{M:YM}{a:Nat}{P:List Bool}(hP:P.length=a)
include hP
theorem w1e{b bn:Bool}{l:List Int}(hl: ∀s∈l,0<=s/\s<(a:Int))(hll:l.length<=1000000):y66 M (uIs b l) (setU P) (.sl bn ((numsL a (nmF P a)).map uI))=some (.sl (sxI (refK P a l))):=by
 have key: ∀(d i:Nat),i+d=l.length->y66_1 M (uIs b l) (setU P) (.sl bn ((numsL a (nmF P a)).map uI)) (i:Int) (sxI (refK P a (l.take i)))=some (.sl (sxI (refK P a l))):=by
  intro d
  induction d with
  |zero=>
   intro i hi
   rw[K0J,List.take_of_length_le (by omega)]
   simp only[len_uIs,oS,show¬((i:Int)<((l.length:Nat):Int)) by omega,dF,bF,iF,J0I,iT]
  |succ d ih=>
   intro i hi
   have hlt:i<l.length:=by omega
   have hg:l[i]? =some l[i]:=q0a hlt
   obtain⟨g1,g2⟩:=hl _ (lM hlt)
   obtain⟨s,hs⟩:=iZ g1
   have hsa:s<a:=by omega
   have hk:=q1G (P:=P) (a:=a) hg
   rw[hs]at hg hk
   rw[iN]at hk
   obtain⟨a1,a2⟩:=j0d (show s<P.length by omega)
   have hid:U.idx 1 (.sl bn ((numsL a (nmF P a)).map uI)) (s:Int)=some (uI (nmF P a s)):=q0w (j0B hsa)
   have hkl:=k1l P a (l.take i)
   rw[List.length_take]at hkl
   have hpd:P.getD s false=P[s]:=by rw[lG,a1];rfl
   rw[K0J]
   simp only[len_uIs,oS,show((i:Int)<((l.length:Nat):Int)) by omega,dY,iT,q0w hg,cell_c,asI_c,setU,z0q a1,asB_c,hid,j1R,q0b (show i<=1000000000 by omega)]
   rw[<-ih (i+1) (by omega),hk,hpd]
   cases e:P[s]with
   |true=>simp only[iT,Z0K _ _ (show(refK P a (l.take i)).length<=1000000000 by omega),oS];rfl
   |false=>simp only[bF,iF,List.append_nil];rfl
 rw[Q1L]
 exact key l.length 0 (by omega)
end
end Go.Proofs.Ytglkhoamnmiolaa.R
