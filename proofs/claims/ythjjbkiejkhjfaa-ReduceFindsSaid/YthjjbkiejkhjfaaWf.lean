/- - -/
import Derived.Test.YthjjbkiejkhjfaaWe
set_option linter.all false
namespace Go.Proofs.Ythjjbkiejkhjfaa.R
open Go Go.Proofs.Ythjjbkiejkhjfaa.Vm
variable{M:YM}
def relF:List E3->(Nat->Bool)->(Nat->Bool)
 | [],p=>p
 |e::es,p=>relF es (upd p e.t.toNat (p e.t.toNat||p e.f.toNat))
def closed(es:List E3)(p:Nat->Bool):Prop:= ∀e∈es,p e.f.toNat=true->p e.t.toNat=true
section
variable{N:Nat}{b1 b2:Bool}{l:List Int}{es:List E3}
def deadB(es:List E3)(s:Nat):Bool:=(ixs gOut es s es.length).isEmpty
theorem W0w{n:Int}(h:gErr n l es=0): ∃N:Nat,n=(N:Int)/\N<=60/\es.length<=2000/\(∀x∈l,0<=x/\x<(N:Int))/\(∀e∈es,eOK (N:Int) e=true)/\edgesOK (N:Int) none es=true:=by
 obtain⟨g1,g2,g3,g4⟩:=J1s h
 simp only[btw,dE]at g1
 obtain⟨N,rfl⟩:=iZ g1.1
 refine⟨N,rfl,by omega,g4,fun x hx=> ?_,j0V g3,g3⟩
 have: ∀{l:List Int} {p:Option Int},ascOK (N:Int) p l=true-> ∀x∈l,btw x 0 ((N:Int) - 1)=true:=by
  intro l
  induction l with
  |nil=>intro p _ x hx;cases hx
  |cons y l ih=>
   intro p h x hx
   simp only[ascOK,bA]at h
   rcases mC.1 hx with rfl |hx
   ·exact h.1.1
   ·exact ih h.2 x hx
 have:=this g2 x hx
 simp only[btw,dE]at this
 omega
theorem J1C{N:Nat}(hok: ∀e∈es,eOK (N:Int) e=true)(s:Nat):(enabled es (s:Int)).isEmpty=deadB es s:=by
 rw[Bool.eq_iff_iff,List.isEmpty_iff]
 unfold deadB
 rw[List.isEmpty_iff]
 constructor
 ·intro h
  refine List.eq_nil_iff_forall_not_mem.2 fun i hi=> ?_
  obtain⟨j,e,h1,h2,h3⟩:=mem_out.1 hi
  have hg:=q0w (hok e (List.mem_of_getElem? h2))
  obtain⟨⟨_,_,g3,g4⟩,_⟩:=hg
  obtain⟨a,ha⟩:=iZ g3
  have:(a:Int)∈enabled es (s:Int):=mem_picks.2 ⟨a,by omega,by omega,rfl,by
   unfold enB
   have hm:(j:Int)∈stepsL es (s:Int) (a:Int):=mem_sel.2 ⟨j,(gE.1 h2).1,rfl,by rw[h2];simp[atSt,h3,ha]⟩
   cases hst:stepsL es (s:Int) (a:Int)with
   |nil=>rw[hst]at hm;cases hm
   |cons x l=>rfl⟩
  rw[h]at this;cases this
 ·intro h
  refine List.eq_nil_iff_forall_not_mem.2 fun x hx=> ?_
  obtain⟨a,_,_,rfl,h4⟩:=mem_picks.1 hx
  unfold enB at h4
  cases hst:stepsL es (s:Int) (a:Int)with
  |nil=>rw[hst]at h4;cases h4
  |cons y l'=>
   have:y∈stepsL es (s:Int) (a:Int):=by rw[hst];simp
   obtain⟨j,h1,h2,h3⟩:=mem_sel.1 this
   cases he:es[j]? with
   |none=>rw[he]at h3;cases h3
   |some e=>
    rw[he]at h3
    simp only[Option.any_some,atSt,bA,dE]at h3
    have:(j:Int)∈ixs gOut es s es.length:=mem_out.2 ⟨j,e,rfl,he,h3.1⟩
    rw[h]at this;cases this
end
end Go.Proofs.Ythjjbkiejkhjfaa.R
