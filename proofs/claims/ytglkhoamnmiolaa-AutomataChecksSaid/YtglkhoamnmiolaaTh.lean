/- - -/
import Derived.Test.YtglkhoamnmiolaaTg
import Derived.Test.YtglkhoamnmiolaaWd
set_option linter.all false
namespace Go.Proofs.Ytglkhoamnmiolaa.R
open Go Go.Proofs.Ytglkhoamnmiolaa.Vm
def cr(e:E4):Bool:=decide (bitI .and .i64 e.n e.v=0)
theorem J1w{M:YM}(e:E4):y69 M e.f e.t e.n e.v=some (.val (.c (.bool (cr e)))):=by rw[Q1N];rfl
theorem J1x{M:YM}{e:E4}(h1:btw e.n 0 4095=true)(h2:btw e.v 0 4095=true):y78 M e.f e.t e.n e.v=some (.val (.c (.bool (cr e)))):=by
 rw[Q1O,J1m h1 h2 h1]
 have h:rdI e e.n=cr e:=by
  simp only[btw,dE]at h1
  obtain⟨n,hn⟩:=iZ h1.1
  have h3:n<4096:=by omega
  unfold rdI cr
  have:bitI .and .i64 e.n e.n=e.n:=by rw[hn,Z0S h3 h3,Nat.and_self]
  rw[this];simp
 simp only[oS,toU_val,asB_c,h]
def markL(n:Nat)(l:List Int):List Bool:=(List.range n).map fun i=>decide (((i:Nat):Int)∈l)
@[simp] theorem markL_len (n:Nat) (l:List Int):(markL n l).length=n:=by simp[markL]
theorem z1O{n:Nat}{l:List Int}{i:Nat}(h:i<n):(markL n l)[i]? =some (decide ((i:Int)∈l)):=by simp[markL,h]
theorem inB_mark{n:Nat}{l:List Int}{i:Nat}:inB (markL n l) i↔i<n/\(i:Int)∈l:=by
 unfold inB
 by_cases h:i<n
 ·rw[z1O h];simp[h]
 ·rw[List.getElem?_eq_none (by rw[markL_len];omega)];simp[h]
theorem k0i{l l':List Bool}(h:l.length=l'.length)(hx: ∀i,inB l i↔inB l' i):l=l':=by
 refine List.ext_getElem? fun i=> ?_
 by_cases hi:i<l.length
 ·obtain⟨a1,a2⟩:=j0d hi
  obtain⟨b1,b2⟩:=j0d (show i<l'.length by omega)
  rw[a1,b1]
  have:=hx i
  rw[a2,b2]at this
  exact congrArg some (Bool.eq_iff_iff.2 this)
 ·rw[List.getElem?_eq_none (by omega),List.getElem?_eq_none (by omega)]
section
variable{M:YM}{n:Nat}{l:List Int}{b:Bool}
theorem z1P(hl: ∀s∈l,0<=s/\s<(n:Int))(hll:l.length<=1000000): ∀(d i:Nat) (out:List Bool),i+d=l.length->out.length=n->(∀x,inB out x↔((x:Nat):Int)∈l.take i)->
  y79_1 M (uIs b l) (i:Int) ⟨true,1,uBs out⟩=some (.sl ⟨true,1,uBs (markL n l)⟩):=by
 intro d
 induction d with
 |zero=>
  intro i out hi ho hx
  rw[K0L]
  simp only[len_uIs,oS,show¬((i:Int)<((l.length:Nat):Int)) by omega,dF,bF,iF,q0S,iT]
  rw[k0i (l:=out) (l':=markL n l) (by simp[ho]) fun x=>by
   rw[hx,inB_mark,List.take_of_length_le (by omega)]
   exact⟨fun h=>⟨by have:=hl _ h;omega,h⟩,(·.2)⟩]
 |succ d ih=>
  intro i out hi ho hx
  have hlt:i<l.length:=by omega
  have hg:l[i]? =some l[i]:=q0a hlt
  obtain⟨g1,g2⟩:=hl _ (lM hlt)
  obtain⟨s,hs⟩:=iZ g1
  rw[hs]at hg
  have hc:s<out.length:=by omega
  rw[K0L]
  simp only[len_uIs,oS,show((i:Int)<((l.length:Nat):Int)) by omega,dY,iT,q0w hg,cell_c,asI_c,q0M hc,iN,q0T hc,q0b (show i<=1000000000 by omega)]
  refine ih (i+1) _ (by omega) (by rw[List.length_set];exact ho) fun x=> ?_
  rw[q0v hc,hx,List.take_succ,hg]
  simp only[Option.toList_some,mA,List.mem_singleton]
  constructor
  ·rintro(h |h)
   ·exact .inr (by rw[h])
   ·exact .inl h
  ·rintro(h |h)
   ·exact .inr h
   ·exact .inl (by omega)
theorem J1y(hn:n<=1000000)(hl: ∀s∈l,0<=s/\s<(n:Int))(hll:l.length<=1000000):y79 M (n:Int) (uIs b l)=some (.sl ⟨true,1,uBs (markL n l)⟩):=by
 rw[Q1P,if_pos ⟨by omega,by omega,rfl⟩,k0H,iN]
 exact z1P hl hll l.length 0 _ (by omega) (by simp) fun x=>⟨fun h=>absurd h q0R,fun h=>by simp at h⟩
theorem z1Q(hn:n<=1000000)(hll:l.length<=1000000): ∀(d i:Nat) (out:List Bool),i+d=n->out.length=n->(∀x,inB out x↔x<i/\((x:Nat):Int)∈l)->
  y85_1 M (uIs b l) (.fn 97 [] []) (n:Int) (i:Int) ⟨true,1,uBs out⟩=some (.sl ⟨true,1,uBs (markL n l)⟩):=by
 intro d
 induction d with
 |zero=>
  intro i out hi ho hx
  rw[K0S]
  simp only[show¬((i:Int)<(n:Int)) by omega,dF,bF,iF,q0S,iT]
  rw[k0i (l:=out) (l':=markL n l) (by simp[ho]) fun x=>by
   rw[hx,inB_mark]
   exact⟨fun h=>⟨by omega,h.2⟩,fun h=>⟨by omega,h.2⟩⟩]
 |succ d ih=>
  intro i out hi ho hx
  have hc:i<out.length:=by omega
  have e97:ycall M 97 ([]++[.c (.int .i64 (i:Int))]++[])=some (.val (.c (.int .i64 (i:Int)))):=Q1X M (i:Int)
  rw[K0S]
  simp only[show((i:Int)<(n:Int)) by omega,dY,iT,U.asF,oS,e97,toU_val,asI_c,J1M (i:Int) hll,asB_c,q0M hc,iN,q0T hc,q0b (show i<=1000000000 by omega)]
  refine ih (i+1) _ (by omega) (by rw[List.length_set];exact ho) fun x=> ?_
  rw[z0w hc,hx,dE]
  constructor
  ·rintro(⟨rfl,h⟩ |⟨h1,h2,h3⟩)
   ·exact⟨by omega,h⟩
   ·exact⟨by omega,h3⟩
  ·rintro⟨h1,h2⟩
   by_cases e:x=i
   ·exact .inl ⟨e,by rw[<-e];exact h2⟩
   ·exact .inr ⟨e,by omega,h2⟩
theorem J1z(hn:n<=1000000)(hll:l.length<=1000000):y85 M (uIs b l) (n:Int) (.fn 97 [] [])=some (.sl ⟨true,1,uBs (markL n l)⟩):=by
 rw[Q1T,if_pos ⟨by omega,by omega,rfl⟩,k0H,iN,uBs_length,List.length_replicate]
 exact z1Q hn hll n 0 _ (by omega) (by simp) fun x=>⟨fun h=>absurd h q0R,fun h=>absurd h.1 (Nat.not_lt_zero _)⟩
end
end Go.Proofs.Ytglkhoamnmiolaa.R
