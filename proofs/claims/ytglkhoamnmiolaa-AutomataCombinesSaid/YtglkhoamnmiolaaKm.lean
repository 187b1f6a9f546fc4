/- - -/
import Derived.Test.YtglkhoamnmiolaaKl
set_option linter.all false
namespace Go.Proofs.Ytglkhoamnmiolaa.R
open Go Go.Proofs.Ytglkhoamnmiolaa.Vm
def asc:Option Int->List Int->Prop
 |_,[]=>True
 |p,x::l=>(∀y,p=some y->y<x)/\asc (some x) l
theorem code_zero{n:Int}{p:Option Int}{x:Int}:code n p x=0↔(0<=x/\x<n)/\ ∀y,p=some y->y<x:=by
 unfold code
 by_cases hb:btw x 0 (n - 1)=true
 ·have h1:0<=x/\x<n:=by simp only[btw,dE]at hb;omega
  rw[if_pos hb]
  cases p with
  |none=>simp[h1]
  |some y=>
   by_cases hy:x<=y
   ·simp only[Option.any_some,hy,dY,iT]
    exact⟨fun h=>(by cases h),fun h=>by have:=h.2 y rfl;omega⟩
   ·simp only[Option.any_some,hy,dF,bF,iF,true_iff]
    exact⟨h1,fun z hz=>by cases hz;omega⟩
 ·rw[if_neg hb]
  refine⟨fun h=>(by cases h),fun h=>absurd ?_ hb⟩
  simp only[btw,dE];omega
theorem sErr_zero{n:Int}: ∀{l:List Int} {p:Option Int},sErr n p l=0↔(∀x∈l,0<=x/\x<n)/\asc p l
 | [],p=>by simp[sErr,asc]
 |x::l,p=>by
  simp only[sErr,asc,mC,forall_eq_or_imp]
  by_cases h:code n p x=0
  ·rw[if_pos h,sErr_zero]
   obtain⟨h1,h2⟩:=code_zero.1 h
   exact⟨fun⟨a,b⟩=>⟨⟨h1,a⟩,h2,b⟩,fun⟨⟨_,a⟩,_,b⟩=>⟨a,b⟩⟩
  ·rw[if_neg h]
   exact⟨fun e=>absurd e h,fun⟨⟨a,_⟩,b,_⟩=>absurd (code_zero.2 ⟨a,b⟩) h⟩
theorem J0c{n:Int}: ∀{xs:List (Bool×List Int)},lErr n xs=0↔ ∀x∈xs,sErr n none x.2=0
 | []=>by simp[lErr]
 |x::xs=>by
  simp only[lErr,mC,forall_eq_or_imp]
  by_cases h:sErr n none x.2=0
  ·rw[if_pos h,J0c];simp[h]
  ·rw[if_neg h];simp[h]
theorem aErr_zero{a:Int}{l:List Int}{es:List E4}{xs:List (Bool×List Int)}:aErr a l es xs=0↔btw a 0 300=true/\es.length<=6000/\xs.length<=8/\es.all (eOK a)=true/\sErr a none l=0/\ ∀x∈xs,sErr a none x.2=0:=by
 unfold aErr
 by_cases h1:btw a 0 300=true
 ·rw[if_pos h1]
  by_cases h2:6000<es.length\/8<xs.length
  ·rw[if_pos h2]
   exact⟨fun h=>(by cases h),fun h=>by omega⟩
  ·rw[if_neg h2]
   by_cases h3:sErr a none l=0
   ·rw[if_pos h3]
    by_cases h4:es.all (eOK a)=true
    ·rw[if_pos h4,J0c]
     exact⟨fun h=>⟨h1,by omega,by omega,h4,h3,h⟩,fun h=>h.2.2.2.2.2⟩
    ·rw[if_neg h4]
     exact⟨fun h=>(by cases h),fun h=>absurd h.2.2.2.1 h4⟩
   ·rw[if_neg h3]
    exact⟨fun h=>absurd h h3,fun h=>absurd h.2.2.2.2.1 h3⟩
 ·rw[if_neg h1]
  exact⟨fun h=>(by cases h),fun h=>absurd h.1 h1⟩
def zeroA:U:= .st [uI 0, .sl false [], .sl false [], .sl false []]
def oneU(a:Int)(l:List Int)(es:List E4)(xs:List (Bool×List Int)):U:=
 .st [uI (a*(xs.length+1:Nat)),uIs (!(oneL xs.length l).isEmpty) (oneL xs.length l),uEs (!(oneEs xs es).isEmpty) (oneEs xs es),uLs true [(true,oneA xs.length a.toNat)]]
def oneR(a:Int)(l:List Int)(es:List E4)(xs:List (Bool×List Int)):List U:=
 if aErr a l es xs=0 then(if 300<a*(xs.length+1:Nat)\/6000<(oneEs xs es).length then [zeroA,uI 2]else [oneU a l es xs,uI 0])else [zeroA,uI (aErr a l es xs)]
theorem X0n{H:Heap}{F:Nat->Prop}:UV H F zeroA (.agg [.int .i64 0, .nilSlice, .nilSlice, .nilSlice]):=
 ⟨_,rfl,_,_,rfl,rfl,⟨rfl,rfl⟩,_,_,rfl,rfl, .inl ⟨rfl,rfl,rfl⟩,_,_,rfl,rfl, .inl ⟨rfl,rfl,rfl⟩,_,_,rfl,rfl, .inl ⟨rfl,rfl,rfl⟩,rfl⟩
theorem X0o{H:Heap}{F:Nat->Prop}{a:Int}{b1 b2 b3:Bool}{l:List Int}{es:List E4}{xs:List (Bool×List Int)}{c1 c2 c3:C}(h1:UC H F (uIs b1 l) [c1])(h2:UC H F (uEs b2 es) [c2])(h3:UC H F (uLs b3 xs) [c3]):UV H F (.st [uI a,uIs b1 l,uEs b2 es,uLs b3 xs]) (.agg [.int .i64 a,c1,c2,c3]):=
 ⟨_,rfl,_,_,rfl,rfl,⟨rfl,rfl⟩,_,_,rfl,rfl,h1,_,_,rfl,rfl,h2,_,_,rfl,rfl,h3,rfl⟩
theorem X0p{H:Heap}{F:Nat->Prop}{n:Int}{u1 u2 u3:U}{v:V}(h:UV H F (.st [uI n,u1,u2,u3]) v): ∃c0 d1 d2 d3,v= .agg [.int .i64 c0,d1,d2,d3]:=by
 cases v with
 |c c=>exact absurd h.1 (by simp[U.isSt])
 |tuple _=>exact h.elim
 |agg xs=>
  obtain⟨us,e,hx⟩:=h
  cases e
  obtain⟨c0,_,rfl,_,k0,d1,_,rfl,_,_,d2,_,rfl,_,_,d3,_,rfl,_,_,rfl⟩:=hx
  have:c0= .int .i64 n:=by have:=k0.2;simpa using this
  exact⟨n,d1,d2,d3,by rw[this]⟩
theorem z1p{M:YM}{a:Int}{b1 b2 b3:Bool}{l:List Int}{es:List E4}{xs:List (Bool×List Int)}:y70 M a (uIs b1 l) (uEs b2 es) (uLs b3 xs)=some (.tup (if 300<a\/6000<es.length\/8<xs.length then [zeroA,uI 2]else [.st [uI a,uIs b1 l,uEs b2 es,uLs b3 xs],uI 0])):=by
 rw[w1u]
 by_cases h1:300<a
 ·simp[h1,zeroA,Sx.fz]
 ·by_cases h2:6000<es.length
  ·have:(6000:Int)<(es.length:Int):=by omega
   simp[h1,h2,this,zeroA,Sx.fz]
  ·have h2': ¬(6000:Int)<(es.length:Int):=by omega
   by_cases h3:8<xs.length
   ·have:(8:Int)<(xs.length:Int):=by omega
    simp[h1,h2,h2',h3,this,zeroA,Sx.fz]
   ·have h3': ¬(8:Int)<(xs.length:Int):=by omega
    simp[h1,h2,h2',h3,h3']
theorem X0q{xs:List (Bool×List Int)}{es:List E4}(h:oneEs xs es=[]):es=[]:=by
 cases es with
 |nil=>rfl
 |cons e es=>simp[oneEs,List.range_succ_eq_map]at h
theorem J0d(xs:List (Bool×List Int)): ∀es:List E4,(oneEs xs es).length=es.length*(xs.length+1)
 | []=>by simp[oneEs]
 |e::es=>by
  have:=J0d xs es
  simp only[oneEs,List.flatMap_cons,List.length_append,List.length_map,List.length_range,List.length_cons]at this⊢
  rw[this,Nat.succ_mul];omega
section
variable{lim:Nat}{M:YM}(hM:CallsY lim M.ext){H:Heap}{F:Nat->Prop}{a:Int}{b1 b2 b3:Bool}{l:List Int}{es:List E4}{xs:List (Bool×List Int)}{c1 c2 c3:C}
include hM
theorem z1U(hlim:lim<=H.next)(hF: ∀i,F i->i<H.next)(hl:l.length<=1000000)(he:es.length<=1000000)(hn:xs.length<=1000000)(hx: ∀x∈xs,x.2.length<=1000000)
  (u1:UC H F (uIs b1 l) [c1]) (u2:UC H F (uEs b2 es) [c2]) (u3:UC H F (uLs b3 xs) [c3]):
  ∃ws H' F',f33 (MH lim) a c1 c2 c3 H=some (.tuple ws,H')/\FrX none H F H' F'/\UVs H' F' (oneR a l es xs) ws:=by
 obtain⟨v,H1,F1,q1,q2,q3⟩:=W0G hM (f:=36) (us:=[.st [uI a,uIs b1 l,uEs b2 es,uLs b3 xs]]) (vs:=[.agg [.int .i64 a,c1,c2,c3]]) (Y0N (M:=M) hl he hn hx) rfl hlim hF ⟨_,[],rfl,X0o u1 u2 u3,rfl⟩
 have:=q3.int
 subst this
 have q36:f36 (MH lim) a c1 c2 c3 H=some (.c (.int .i64 (aErr a l es xs)),H1):=q1
 have g1:=Y0n q2 hF
 by_cases h0:aErr a l es xs=0
 rotate_left
 ·refine⟨[.agg [.int .i64 0, .nilSlice, .nilSlice, .nilSlice], .c (.int .i64 (aErr a l es xs))],H1,F, ?_,g1, ?_⟩
  ·rw[z1w]
   simp only[q36,oS,asC_c,asI_int,h0,dF,Bool.not_false,iT]
  ·unfold oneR
   rw[if_neg h0]
   exact k1o X0n w0i
 obtain⟨k1,k2,k3,k4,k5,k6⟩:=aErr_zero.1 h0
 simp only[btw,dE]at k1
 obtain⟨n,rfl⟩:=iZ k1.1
 have hF1: ∀i,F i->i<H1.next:=g1.lt
 have m1:FLe H F H1 F:=g1.le0 hF
 have A:AV lim H1 F H1.next n l es xs b1 b2 b3 c1 c2 c3:=⟨nT hlim g1.next,hF1,by omega,k2,k3,k4,u1.mono m1,u2.mono m1,u3.mono m1,⟨hl,(sErr_zero.1 k5).1⟩,fun x hx'=>⟨hx x hx',(sErr_zero.1 (k6 x hx')).1⟩⟩
 have hN:n*(xs.length+1)<=300*9:=Nat.mul_le_mul (by omega) (by omega)
 have e1:IntKind.wrap .i64 (((xs.length:Nat):Int)+1)=((xs.length+1:Nat):Int):=q0b (by omega)
 have e2:IntKind.wrap .i64 ((n:Int)*((xs.length+1:Nat):Int))=((n*(xs.length+1):Nat):Int):=by rw[<-Int.natCast_mul,q0h (by omega) (by omega)]
 have st5:Heap.st lim (H1.alloc (.cells 1 [.int .i64 0])) H1.next 0 [.int .i64 ((xs.length+1:Nat):Int)]=some ((H1.alloc (.cells 1 [.int .i64 0])).put H1.next (.cells 1 [.int .i64 ((xs.length+1:Nat):Int)])):=k0O (alloc_new _ _) A.hl (by simp)
 generalize hH6:(H1.alloc (.cells 1 [.int .i64 0])).put H1.next (.cells 1 [.int .i64 ((xs.length+1:Nat):Int)])=H6 at st5
 have n6:H6.next=H1.next+1:=by rw[<-hH6];rfl
 have b6:H6.get H1.next=some (.cells 1 [.int .i64 ((xs.length+1:Nat):Int)]):=by rw[<-hH6,put_same]
 have o6: ∀i,i<H1.next->H6.get i=H1.get i:=fun i hi=>by rw[<-hH6,j0k (by omega),q0k hi]
 have ld6:Heap.ld H6 H1.next 0=some (.int .i64 ((xs.length+1:Nat):Int)):=by rw[z0R b6];rfl
 have head: ∀R,(if(300:Int)<((n*(xs.length+1):Nat):Int)then some (V.tuple [.agg [.int .i64 0, .nilSlice, .nilSlice, .nilSlice], .c (.int .i64 2)],H6)else
   f33_1 (MH lim) (n:Int) c1 c2 c3 0 .nilSlice .nilSlice .nilSlice ((xs.length:Nat):Int) (.ptr H1.next 0) (.func 71 [] [(.ptr H1.next 0)]) ((n*(xs.length+1):Nat):Int) .nilSlice .nilSlice (.slice (H6.alloc (.cells 1 [])).next 0 1) c1 ((l.length:Nat):Int) 0 ((H6.alloc (.cells 1 [])).alloc (.cells 1 [(.slice H6.next 0 0)])))=R->f33 (MH lim) (n:Int) c1 c2 c3 H=R:=fun R h=>by
  rw[z1w,<-h]
  simp only[q36,oS,asC_c,asI_int,h0,dY,Bool.not_true,bF,iF,k1S A.u3,e1,st5,ld6,e2,q1P A.u1,dE]
 by_cases h3:300<n*(xs.length+1)
 ·refine⟨[.agg [.int .i64 0, .nilSlice, .nilSlice, .nilSlice], .c (.int .i64 2)],H6,F,head _ (by rw[if_pos (by omega)]),g1.trans ⟨by omega,fun i hi _=>o6 i hi,fun _ h=>h,fun _ h=> .inl h,fun i hi=>by have:=hF1 i hi;omega⟩, ?_⟩
  unfold oneR
  rw[if_pos h0,if_pos (.inl (by rw[<-Int.natCast_mul];omega))]
  exact k1o X0n w0i
 have nA:(H6.alloc (.cells 1 [])).next=H1.next+2:=by simp[n6]
 rw[nA,n6]at head
 generalize hHs:(H6.alloc (.cells 1 [])).alloc (.cells 1 [(.slice (H1.next+1) 0 0)])=Hs at head
 have ns:Hs.next=H1.next+3:=by rw[<-hHs];simp[n6]
 have olds: ∀i,i<H1.next+1->Hs.get i=H6.get i:=fun i hi=>by rw[<-hHs,q0k (by simp[n6];omega),q0k (by omega)]
 have gi:Hs.get (H1.next+1)=some (.cells 1 []):=by
  rw[<-hHs,q0k (by simp[n6]),show H1.next+1=H6.next from n6.symm];exact alloc_new _ _
 have go:Hs.get (H1.next+2)=some (.cells 1 [.slice (H1.next+1) 0 0]):=by
  rw[<-hHs,<-nA];exact alloc_new _ _
 have f0:Fr1 H1 F H1.next H1.next xs.length (H1.next+3) Hs (fun i=>F i\/i=H1.next):=
  ⟨⟨by omega,fun i hi=>by rw[olds i (by omega)];exact o6 i hi⟩,by omega,by rw[olds _ (by omega)];exact b6, .inr rfl,fun i hi=> .inl hi,fun i hi=>hi.elim (fun h=>by have:=hF1 i h;omega) fun h=>by omega,fun i hi=>hi.imp id .inl⟩
 obtain⟨Ha,ca,r1,r2,r3,r4,r5⟩:=Y0o hM A (jl:=H1.next) (m0:=H1.next+3) (by omega) (by omega) (by have:=A.hl;omega) (x20:=0) (x21:= .nilSlice) (x22:= .nilSlice) (x23:= .nilSlice) (o2:= .nilSlice) (o3:= .slice (H1.next+2) 0 1) (o0:=((n*(xs.length+1):Nat):Int)) l.length 0 Hs _ .nilSlice (by omega) f0 (by simpa[oneL]using OutR.nil)
 have ca0:(oneL xs.length l).map uI=[]->ca= .nilSlice:=fun h=>r5 (by rw[show l=[] by simpa[oneL]using h];rfl)
 have hl:=A.hl
 let G1:Nat->Prop:=fun i=>F i\/i=H1.next\/(H1.next+3<=i/\i<Ha.next)
 have na:=r2.n0
 have hG1: ∀i,G1 i->i<Ha.next:=fun i hi=>by
  rcases hi with h |h |h
  ·have:=hF1 i h;omega
  ·omega
  ·exact h.2
 have uca:UC Ha G1 (uIs (!(oneL xs.length l).isEmpty) (oneL xs.length l)) [ca]:=by
  have:=Y0d r3 ca0 (F':=G1) (fun i hi=>hi.elim .inl fun h=> .inr (.inl h)) (fun i h1 h2=> .inr (.inr ⟨h1,h2⟩))
  simpa[uIs]using this
 have fa:Fr1 H1 F H1.next H1.next xs.length (H1.next+3) Ha G1:=⟨r2.fr,na,r2.box, .inr (.inl rfl),fun i hi=> .inl hi,hG1,fun i hi=>hi.imp id fun h=>h.imp id fun h=>h.1⟩
 obtain⟨Hb,cb,s1,s2,s3⟩:=Y0i hM A (jl:=H1.next) (m0:=H1.next+3) (by omega) (by omega) (by omega) (x20:=0) (x21:= .nilSlice) (x22:= .nilSlice) (x23:= .nilSlice) (o1:=ca) (o3:= .slice (H1.next+2) 0 1) (o0:=((n*(xs.length+1):Nat):Int)) es.length 0 Ha [] .nilSlice (by omega) (by simp;omega) fa .nil
 rw[List.drop_zero,List.nil_append]at s2
 have nb:=s2.f.n0
 have cb0:(oneEs xs es).map uE=[]->cb= .nilSlice:=fun h=>s3 (by rw[X0q (xs:=xs) (es:=es) (by simpa using h)];rfl)
 let G2:Nat->Prop:=fun i=>F i\/i=H1.next\/(H1.next+3<=i/\i<Hb.next)
 have hab:Ha.next<=Hb.next:=s2.nx
 have hG12: ∀i,G1 i->G2 i:=fun i hi=>hi.imp id fun h=>h.imp id fun h=>⟨h.1,by omega⟩
 have hG2: ∀i,G2 i->i<Hb.next:=fun i hi=>by
  rcases hi with h |h |h
  ·have:=hF1 i h;omega
  ·omega
  ·exact h.2
 have ucb:UC Hb G2 (uEs (!(oneEs xs es).isEmpty) (oneEs xs es)) [cb]:=by
  have:=Y0d s2.o cb0 (F':=G2) hG12 (fun i h1 h2=> .inr (.inr ⟨h1,h2⟩))
  simpa[uEs]using this
 have gib:Hb.get (H1.next+1)=some (.cells 1 []):=by rw[s2.low _ (by omega),r4 _ (by omega)];exact gi
 have gob:Hb.get (H1.next+2)=some (.cells 1 [.slice (H1.next+1) 0 0]):=by rw[s2.low _ (by omega),r4 _ (by omega)];exact go
 have hno2: ∀i,i=H1.next+1\/i=H1.next+2-> ¬G2 i:=fun i hi h=>by
  rcases h with h |h |h
  ·have:=hF1 i h;omega
  ·omega
  ·omega
 have j0:J6 H1 F H1.next H1.next xs.length (H1.next+3) Hb G2 (oneA xs.length 0) (.slice (H1.next+1) 0 0):=
  ⟨⟨s2.f.fr,nb,s2.f.box, .inr (.inl rfl),fun i hi=> .inl hi,hG2,fun i hi=>hi.imp id fun h=>h.imp id fun h=>h.1⟩,gob,⟨by omega,fun r hr=>by simp[oneA]at hr, .inr ⟨H1.next+1,0,[],rfl,nR _,by omega,gib,by simp[oneA],by simp[oneA]⟩⟩,
   fun i o n' e=>by cases e;exact⟨by omega,hno2 _ (.inl rfl)⟩,by simp⟩
 obtain⟨Hc,cc,t1,t2,t3,t4⟩:=Y0e hM A (jl:=H1.next) (m0:=H1.next+3) rfl (nR _) A.hl (G:=G2) (hno2 _ (.inr rfl)) (x20:=0) (x21:= .nilSlice) (x22:= .nilSlice) (x23:= .nilSlice) (o1:=ca) (o2:=cb) (o0:=((n*(xs.length+1):Nat):Int)) n 0 Hb _ (by omega) j0
 have nc:=t2.f.n0
 have hbc:Hb.next<=Hc.next:=t4
 let F3:Nat->Prop:=fun i=>F i\/(H1.next<=i/\i<Hc.next)
 have hF3: ∀i,F3 i->i<Hc.next:=fun i hi=>hi.elim (fun h=>by have:=hF1 i h;omega) fun h=>h.2
 have h23: ∀i,G2 i->F3 i:=fun i hi=>by
  have:=hG2 i hi
  rcases hi with h |h |h
  ·exact .inl h
  ·exact .inr ⟨by omega,by omega⟩
  ·exact .inr ⟨by omega,by omega⟩
 have w1:UC Hc F3 (uIs (!(oneL xs.length l).isEmpty) (oneL xs.length l)) [ca]:=(((uca.mono s2.le).mono ⟨hG12,fun _ _=>rfl⟩).mono t3).mono ⟨h23,fun _ _=>rfl⟩
 have w2:UC Hc F3 (uEs (!(oneEs xs es).isEmpty) (oneEs xs es)) [cb]:=(ucb.mono t3).mono ⟨h23,fun _ _=>rfl⟩
 have w3:UC Hc F3 (uLs true [(true,oneA xs.length n)]) [.slice (H1.next+2) 0 1]:=by
  refine .inr ⟨rfl,H1.next+2,0,_,1,rfl, .inr ⟨by omega,by omega⟩,t2.tab,by simp, ?_⟩
  exact⟨[cc],[],rfl,rfl,j1H t2.row t2.nz fun i h1 h2=> .inr ⟨by omega,h2⟩,rfl⟩
 have hmd:md 70=[.va, .va]:=by kernel_rfl
 obtain⟨ws,Hd,Fd,z1,z2,z3⟩:=Rz.callT (md:=md) (k0B (vext:=awExt 8) (yext:=M.ext) (prog:=progOf 8 prog true) (lim:=lim) Q0x hM) (f:=70) (us:=[.st [uI ((n*(xs.length+1):Nat):Int),uIs (!(oneL xs.length l).isEmpty) (oneL xs.length l),uEs (!(oneEs xs es).isEmpty) (oneEs xs es),uLs true [(true,oneA xs.length n)]]])
  (vs:=[.agg [.int .i64 ((n*(xs.length+1):Nat):Int),ca,cb, .slice (H1.next+2) 0 1]]) (z1p (M:=M)) hmd (H:=Hc) (F:=F3) (by omega) hF3 ⟨_,[],rfl,X0o w1 w2 w3,rfl⟩
 have f3:FrX none H F Hd Fd:=g1.trans ⟨nT (by omega) z2.next,fun i hi _=>by
   rw[z2.keep i (by omega) (fun e=>by cases e)];exact t2.f.fr.old i hi,fun i hi=>z2.sub i (.inl hi),fun i hi=>(z2.new i hi).elim (fun h=>h.imp id And.left) fun h=> .inr (by omega),z2.lt⟩
 have hcast:(n:Int)*((xs.length+1:Nat):Int)=((n*(xs.length+1):Nat):Int):=(Int.natCast_mul _ _).symm
 have hR:oneR (n:Int) l es xs=if 300<((n*(xs.length+1):Nat):Int)\/6000<(oneEs xs es).length\/8<[(true,oneA xs.length n)].length then [zeroA,uI 2]else [.st [uI ((n*(xs.length+1):Nat):Int),uIs (!(oneL xs.length l).isEmpty) (oneL xs.length l),uEs (!(oneEs xs es).isEmpty) (oneEs xs es),uLs true [(true,oneA xs.length n)]],uI 0]:=by
  unfold oneR oneU
  rw[if_pos h0,hcast,iN]
  have: ¬8<[(true,oneA xs.length n)].length:=by simp
  simp only[this,or_false]
 rw[<-hR]at z3
 have q70:f70 (MH lim) ((n*(xs.length+1):Nat):Int) ca cb (.slice (H1.next+2) 0 1) Hc=some (.tuple ws,Hd):=z1
 have fin: ∀v0 v1,ws=[v0,v1]->(∃c0 d1 d2 d3,v0= .agg [.int .i64 c0,d1,d2,d3])->(∃e,v1= .c (.int .i64 e))->f33 (MH lim) (n:Int) c1 c2 c3 H=some (.tuple ws,Hd):=by
  rintro v0 v1 hw ⟨x0,x1,x2,x3,rfl⟩ ⟨x4,rfl⟩
  subst hw
  refine head _ ?_
  rw[show((0:Nat):Int)=0 from rfl]at r1 s1 t1
  rw[if_neg (by omega),r1,s1,t1,K0x]
  simp only[Int.lt_irrefl,dF,bF,iF,q70,oS,ext_tuple,List.getElem?_cons_zero,List.getElem?_cons_succ,asA_agg,headC_cons,asI_int,List.drop_succ_cons,List.drop_zero,List.length_nil,iT,asC_c]
 refine⟨ws,Hd,Fd, ?_,f3,z3⟩
 unfold oneR at z3
 rw[if_pos h0]at z3
 split at z3
 ·obtain⟨v0,_,rfl,y0,v1,_,rfl,y1,rfl⟩:=z3
  exact fin v0 v1 rfl (X0p y0) ⟨_,y1.int⟩
 ·obtain⟨v0,_,rfl,y0,v1,_,rfl,y1,rfl⟩:=z3
  exact fin v0 v1 rfl (X0p y0) ⟨_,y1.int⟩
end
end Go.Proofs.Ytglkhoamnmiolaa.R
