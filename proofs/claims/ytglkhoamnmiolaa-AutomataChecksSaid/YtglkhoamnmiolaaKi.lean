/- - -/
import Derived.Test.YtglkhoamnmiolaaKh
import Derived.Test.YtglkhoamnmiolaaWe
set_option linter.all false
namespace Go.Proofs.Ytglkhoamnmiolaa.R
open Go Go.Proofs.Ytglkhoamnmiolaa.Vm
theorem w1K{M:YM}{N:Nat}{rows:List (Bool×List Int)}(hn:N<=1000000)(hT:Table N rows)(hrev:HasRev M){b b2:Bool}{ls:List (List Bool)}(hs: ∀l∈ls,l.length=N)(hm:ls.length<=1000000):
  ∃P,y44 M (uLs b rows) (.sl b2 (ls.map setU))=some (.sl ⟨true,1,uBs P⟩)/\P.length=N/\ ∀u,inB P u↔Inf (nxT rows) ls.length (fun k=>inB (ls.getD k [])) u:=by
 cases ls with
 |nil=>
  obtain⟨rows',P,h1,h2,h3⟩:=Z1p (M:=M) hn hT hrev (b:=b) (b2:=b2)
  exact⟨P,h2,h3.len,fun u=>h3.inf0 hT.1 h1 u _⟩
 |cons x ls=>
  have hm1:((x::ls).map fun l=>(true,l)).map (·.2)=x::ls:=by simp[Function.comp_def]
  obtain⟨rows',P,h1,h2,h3⟩:=Z1o (M:=M) hn hT hrev (b:=b) (b2:=b2) (ss:=(x::ls).map fun l=>(true,l)) (fun y hy=>by
   obtain⟨l,hl,rfl⟩:=List.mem_map.1 hy
   exact hs l hl) (by simpa using hm) (by simp)
  rw[hm1]at h3
  refine⟨P, ?_,h3.len,fun u=>h3.inf hT.1 h1 (by simp) u⟩
  rw[<-h2]
  unfold uSs
  rw[List.map_map]
  rfl
theorem z1y{k m:Nat}(hm:0<m):(k+1) % m=if k % m+1=m then 0 else k % m+1:=by
 have h:=Nat.div_add_mod k m
 have hr:=Nat.mod_lt k hm
 rw[show k+1=m*(k / m)+(k % m+1) by omega,Nat.mul_add_mod]
 split
 ·rename_i e;rw[e,Nat.mod_self]
 ·exact Nat.mod_eq_of_lt (by omega)
def posN(w0:List Int)(n:Nat):Nat->Nat
 | 0=>0
 |i+1=>toP w0 n (posN w0 n i)
theorem w1L{w0 w1:List Int}{n:Nat}(hn:n=w0.length+w1.length)(h1:0<w1.length): ∀i,posN w0 n i<n/\if i<w0.length then posN w0 n i=i else w0.length<=posN w0 n i/\posN w0 n i - w0.length=(i - w0.length) % w1.length
 | 0=>by
  refine⟨by simp[posN];omega, ?_⟩
  split
  ·rfl
  ·rename_i h
   have h0:w0.length=0:=by omega
   simp[posN,h0]
 |i+1=>by
  obtain⟨g1,g2⟩:=w1L hn h1 i
  simp only[posN,toP]
  by_cases hi:i<w0.length
  ·rw[if_pos hi]at g2
   rw[g2]at g1⊢
   by_cases hi1:i+1<w0.length
   ·rw[if_neg (by omega),if_pos hi1]
    exact⟨by omega,rfl⟩
   ·rw[if_neg (by omega),if_neg hi1]
    refine⟨by omega,by omega, ?_⟩
    rw[show i+1 - w0.length=0 by omega];simp
  ·rw[if_neg hi]at g2
   have hm:=z1y (k:=i - w0.length) h1
   rw[show i - w0.length+1=i+1 - w0.length by omega]at hm
   have hr:=Nat.mod_lt (i - w0.length) h1
   by_cases e:posN w0 n i+1=n
   ·rw[if_pos e,if_neg (by omega)]
    rw[if_pos (by omega)]at hm
    exact⟨by omega,nR _,by omega⟩
   ·rw[if_neg e,if_neg (by omega)]
    rw[if_neg (by omega)]at hm
    exact⟨by omega,by omega,by omega⟩
theorem Z0R(ps:List (Int×Int))(n:Nat):(ps.filter fun p=>decide (0<=p.2/\p.2<((n+1:Nat):Int))).length=(ps.filter fun p=>decide (0<=p.2/\p.2<(n:Int))).length+(ps.filter fun p=>decide (p.2=(n:Int))).length:=by
 induction ps with
 |nil=>rfl
 |cons p ps ih=>
  simp only[List.filter_cons]
  by_cases h1:0<=p.2/\p.2<(n:Int)
  ·have h2:0<=p.2/\p.2<((n+1:Nat):Int):=by omega
   have h3: ¬p.2=(n:Int):=by omega
   simp only[h1,h2,h3,and_self,dY,dF,iT,bF,iF,List.length_cons];omega
  ·by_cases h3:p.2=(n:Int)
   ·have h2:0<=p.2/\p.2<((n+1:Nat):Int):=by omega
    rw[if_pos (by simpa using h2),if_neg (by simpa using h1),if_pos (by simpa using h3)]
    simp only[List.length_cons];omega
   ·have h2: ¬(0<=p.2/\p.2<((n+1:Nat):Int)):=by omega
    rw[if_neg (by simpa using h2),if_neg (by simpa using h1),if_neg (by simpa using h3)]
    exact ih
theorem Y0N(ps:List (Int×Int)): ∀n:Nat,((tabU (tabD n ps)).map fun r=>r.2.length).sum=(ps.filter fun p=>decide (0<=p.2/\p.2<(n:Int))).length
 | 0=>by
  have:ps.filter (fun p=>decide (0<=p.2/\p.2<((0:Nat):Int)))=[]:=List.filter_eq_nil_iff.2 fun p _=>by simp
  rw[this];rfl
 |n+1=>by
  have e:tabD (n+1) ps=tabD n ps++[(ps.filter fun p=>decide (p.2=(n:Int))).map (·.1)]:=by simp[tabD,List.range_succ]
  rw[e,tabU,List.map_append,List.map_append,List.sum_append,Z0R]
  have:=Y0N ps n
  rw[tabU]at this
  rw[this]
  simp
theorem J0T{n:Nat}{ps:List (Int×Int)}(h1: ∀p∈ps,0<=p.1/\p.1<(n:Int))(h2:ps.length<=1000000):Table n (tabU (tabD n ps)):=by
 refine⟨by simp[tabU,j0e],fun r hr y hy=> ?_, ?_⟩
 ·obtain⟨l,hl,rfl⟩:=List.mem_map.1 hr
  obtain⟨j,_,rfl⟩:=List.mem_map.1 hl
  obtain⟨p,hp,rfl⟩:=List.mem_map.1 hy
  exact h1 p (List.mem_filter.1 hp).1
 ·rw[Y0N]
  exact nT (List.length_filter_le _ _) h2
section
variable{lim:Nat}{M:YM}(hM:CallsY lim M.ext)(hrev:HasRev M){H0:Heap}{F:Nat->Prop}{b a:Nat}{b1 b2 b3 b4 b5:Bool}{l:List Int}{es:List E4}{xs:List (Bool×List Int)}{w0 w1:List Int}{c1 c2 c3 d0 d1:C}
variable(A:AW lim H0 F b a l es xs w0 w1 b1 b2 b3 b4 b5 c1 c2 c3 d0 d1){n:Nat}(hn:n=w0.length+w1.length)
include A hn
end
section
variable{lim:Nat}{M:YM}(hM:CallsY lim M.ext)(hrev:HasRev M){H:Heap}{F:Nat->Prop}{a:Nat}{b1 b2 b3 b4 b5:Bool}{l:List Int}{es:List E4}{xs:List (Bool×List Int)}{w0 w1:List Int}{c1 c2 c3 d0 d1:C}
variable(A:AW lim H F H.next a l es xs w0 w1 b1 b2 b3 b4 b5 c1 c2 c3 d0 d1)
include hM hrev A
end
end Go.Proofs.Ytglkhoamnmiolaa.R
