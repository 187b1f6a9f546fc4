/- - -/
import Derived.Test.YtglkhoamnmiolaaWc
set_option linter.all false
namespace Go.Proofs.Ytglkhoamnmiolaa.R
open Go Go.Proofs.Ytglkhoamnmiolaa.Vm
variable{M:YM}
theorem Z0S{a b:Nat}(ha:a<4096)(hb:b<4096):bitI .and .i64 (a:Int) (b:Int)=((a&&& b:Nat):Int):=by
 have h1:BitVec.ofInt 64 (a:Int)=BitVec.ofNat 64 a:=by simp
 have h2:BitVec.ofInt 64 (b:Int)=BitVec.ofNat 64 b:=by simp
 have h3:a&&& b<=a:=Nat.and_le_left
 unfold bitI
 show IntKind.wrap .i64 (((BitVec.ofInt 64 (a:Int))&&& (BitVec.ofInt 64 (b:Int))).toNat:Int)=_
 rw[h1,h2,BitVec.toNat_and,BitVec.toNat_ofNat,BitVec.toNat_ofNat]
 rw[Nat.mod_eq_of_lt (show a<2 ^ 64 by omega),Nat.mod_eq_of_lt (show b<2 ^ 64 by omega)]
 exact j0M (by omega) (by omega)
theorem J1l{a k:Nat}(hk:k<64):y81 M (a:Int) (k:Int)=some (.val (.c (.bool (a.testBit k)))):=by
 rw[Q1R]
 have h1:shI .shr .i64 (a:Int) (k:Int)=((a / 2 ^ k:Nat):Int):=by
  unfold shI
  simp only[iN,show IntKind.bits .i64=64 from rfl,Nat.min_eq_left (show k<=64 by omega)]
  rw[Int.fdiv_eq_ediv_of_nonneg _ (Int.le_of_lt (Int.pow_pos (by omega)))]
  simp
 rw[if_neg (by omega),h1,show(2:Int)=((2:Nat):Int)from rfl,j1X,Nat.testBit_eq_decide_div_mod_eq]
 congr 4
 simp only[decide_eq_decide]
 omega
def okBit(n v c k:Nat):Bool:= !((n.testBit k&& !c.testBit k)||(v.testBit k&&c.testBit k))
def okBits(n v c:Nat):Nat->Nat->Bool
 | 0,_=>true
 |d+1,k=>okBit n v c k&&okBits n v c d (k+1)
theorem z1z{n v c:Nat}{f t:Int}: ∀(d k:Nat),k+d=12->y43_1 M (c:Int) f t (n:Int) (v:Int) (k:Int)=some (.val (.c (.bool (okBits n v c d k)))):=by
 intro d
 induction d with
 |zero=>
  intro k hk
  rw[K0F]
  simp only[show¬((k:Int)<12) by omega,dF,bF,iF,okBits]
 |succ d ih=>
  intro k hk
  rw[K0F]
  simp only[show((k:Int)<12) by omega,dY,iT,J1l (show k<64 by omega),oS,toU_val,asB_c,q0b (show k<=1000000000 by omega),ih (k+1) (by omega),okBits,okBit]
  cases n.testBit k<;>cases c.testBit k<;>cases v.testBit k<;>simp
theorem Q0t(n v c:Nat): ∀(d k:Nat),okBits n v c d k=true↔ ∀j,k<=j->j<k+d->okBit n v c j=true
 | 0,k=>by simp[okBits];omega
 |d+1,k=>by
  simp only[okBits,bA,Q0t n v c d (k+1)]
  constructor
  ·rintro⟨h1,h2⟩ j hj hj2
   by_cases h:j=k
   ·rw[h];exact h1
   ·exact h2 j (by omega) (by omega)
  ·intro h
   exact⟨h k (by omega) (by omega),fun j hj hj2=>h j (by omega) (by omega)⟩
def rdI(e:E4)(c:Int):Bool:=decide (bitI .and .i64 c e.n=e.n)&&decide (bitI .and .i64 c e.v=0)
theorem Y0S{n v c:Nat}(hn:n<4096)(hv:v<4096)(hc:c<4096):okBits n v c 12 0=(decide (bitI .and .i64 (c:Int) (n:Int)=(n:Int))&&decide (bitI .and .i64 (c:Int) (v:Int)=0)):=by
 rw[Z0S hc hn,Z0S hc hv,Bool.eq_iff_iff,Q0t]
 simp only[bA,dE]
 have big: ∀{x j:Nat},x<4096->12<=j->x.testBit j=false:=fun{x j} hx hj=>Nat.testBit_lt_two_pow (nL hx (show 2 ^ 12<=2 ^ j from Nat.pow_le_pow_right (by omega) hj))
 constructor
 ·intro h
  refine⟨?_, ?_⟩
  ·have:c&&& n=n:=by
    refine Nat.eq_of_testBit_eq fun j=> ?_
    rw[Nat.testBit_and]
    by_cases hj:j<12
    ·have:=h j (by omega) (by omega)
     revert this
     unfold okBit
     cases n.testBit j<;>cases c.testBit j<;>cases v.testBit j<;>simp
    ·rw[big hn (by omega)];simp
   exact_mod_cast this
  ·have:c&&& v=0:=by
    refine Nat.eq_of_testBit_eq fun j=> ?_
    rw[Nat.testBit_and,Nat.zero_testBit]
    by_cases hj:j<12
    ·have:=h j (by omega) (by omega)
     revert this
     unfold okBit
     cases n.testBit j<;>cases c.testBit j<;>cases v.testBit j<;>simp
    ·rw[big hv (by omega)];simp
   exact_mod_cast this
 ·rintro⟨h1,h2⟩ j _ _
  have h1':c&&& n=n:=by exact_mod_cast h1
  have h2':c&&& v=0:=by exact_mod_cast h2
  have k1:(c.testBit j&&n.testBit j)=n.testBit j:=by rw[<-Nat.testBit_and,h1']
  have k2:(c.testBit j&&v.testBit j)=false:=by rw[<-Nat.testBit_and,h2',Nat.zero_testBit]
  unfold okBit
  revert k1 k2
  cases n.testBit j<;>cases c.testBit j<;>cases v.testBit j<;>simp
theorem Z0T{n:Int}(h:btw n 0 4095=true): ∃m:Nat,n=m/\m<4096:=by
 simp only[btw,dE]at h
 exact⟨n.toNat,by omega,by omega⟩
theorem J1m{e:E4}{c:Int}(h1:btw e.n 0 4095=true)(h2:btw e.v 0 4095=true)(h3:btw c 0 4095=true):y43 M e.f e.t e.n e.v c=some (.val (.c (.bool (rdI e c)))):=by
 obtain⟨n,hn,hn'⟩:=Z0T h1
 obtain⟨v,hv,hv'⟩:=Z0T h2
 obtain⟨m,hm,hm'⟩:=Z0T h3
 rw[Q1F,rdI,hn,hv,hm]
 rw[<-Y0S hn' hv' hm']
 exact z1z 12 0 rfl
def edge(s t c:Int)(e:E4):Bool:=decide (e.f=s)&&decide (e.t=t)&&rdI e c
end Go.Proofs.Ytglkhoamnmiolaa.R
