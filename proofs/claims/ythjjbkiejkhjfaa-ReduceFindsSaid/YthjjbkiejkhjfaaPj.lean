/- - -/
import Derived.Test.YthjjbkiejkhjfaaPi
import Derived.Test.YthjjbkiejkhjfaaWe
set_option linter.all false
namespace Go.Proofs.Ythjjbkiejkhjfaa.R
open Go Go.Proofs.Ythjjbkiejkhjfaa.Vm
def choR(n:Int)(l:List Int)(es:List E3)(lab:List Int):Rz:= .tup [if glErr n l es lab=0 then uLs true (xsU (found es n.toNat (visB lab es)))else .sl false [],uI (glErr n l es lab)]
def ChoP(us:List U)(r:Rz):Prop:= ∃n b1 l b2 es lab,us=[.st [uI n,uIs b1 l,uEs b2 es],uIs true lab]/\l.length<=1000000/\es.length<=1000000/\lab.length<=1000000/\r=choR n l es lab
theorem X0j{b b':Bool}{l l':List Int}(h:uIs b l=uIs b' l'):l=l':=by
 simp only[uIs,U.sl.injEq]at h
 exact k0N (fun x y e=>by simpa[uI]using e) h.2
theorem ChoP.one{us:List U}{r r':Rz}(h:ChoP us r)(k:ChoP us r'):r=r':=by
 obtain⟨n,b1,l,b2,es,lab,rfl,_,_,_,rfl⟩:=h
 obtain⟨n',b1',l',b2',es',lab',e,_,_,_,rfl⟩:=k
 simp only[List.cons.injEq,U.st.injEq,uI,U.c.injEq,C.int.injEq,true_and,and_true]at e
 obtain⟨⟨e1,e2,e3⟩,e4⟩:=e
 have h3:es=es':=by
  simp only[uEs,U.sl.injEq]at e3
  exact k0N (fun a b=>Q1Q) e3.2
 rw[e1,X0j e2,h3,X0j e4]
open Classical in
noncomputable def choY(us:List U):Option Rz:=if h: ∃r,ChoP us r then some h.choose else none
theorem J1X{us:List U}{r:Rz}(h:ChoP us r):choY us=some r:=by
 have hx: ∃r,ChoP us r:=⟨r,h⟩
 unfold choY
 rw[dif_pos hx,hx.choose_spec.one h]
theorem K1F(lim:Nat):CallsOK lim (callOf (run (awExt 10) (progOf 10 prog true) lim)) md (fun f us=>if f=40 then choY us else none):=by
 intro f us r h H F vs hl hF hv
 by_cases hf:f=40
 rotate_left
 ·simp only[if_neg hf]at h;cases h
 subst hf
 simp only[iT]at h
 unfold choY at h
 split at h
 rotate_left
 ·cases h
 rename_i hx
 cases h
 obtain⟨n,b1,l,b2,es,lab,rfl,h1,h2,h3,hr⟩:=hx.choose_spec
 rw[hr]
 obtain⟨v1,_,rfl,g1,v2,_,rfl,g2,rfl⟩:=hv
 obtain⟨cl,rfl,g3⟩:=g2.one rfl
 cases v1 with
 |c c=>exact absurd g1.1 (by simp[U.isSt])
 |tuple _=>exact absurd g1 id
 |agg ca=>
  have g1':=g1
  obtain⟨us,eu,q⟩:=g1
  cases eu
  obtain⟨y0,_,rfl,_,q0,y1,_,rfl,_,q1,y2,_,rfl,_,q2,rfl⟩:=q
  have z0:=z0l q0
  simp only[List.cons.injEq,and_true]at z0
  subst z0
  obtain⟨H',F',cc,c1,c2,c3⟩:=K1x (lim:=lim) (n:=n) (l:=l) (es:=es) (lab:=lab) (b1:=b1) (b2:=b2) hl hF h1 h2 h3 ⟨_,_,rfl,g1',rfl⟩ g3
  refine⟨.tuple [.c cc, .c (.int .i64 (glErr n l es lab))],H',F',c1,c2.next,fun i hi=>c2.keep i hi (by simp),c2.sub,c2.new,c2.lt, ?_⟩
  have hm:md 40=[.va, .va]:=by kernel_rfl
  rw[hm]
  refine⟨_,rfl,_,_,rfl,⟨?_,c3⟩,_,_,rfl,z0o _,rfl⟩
  split<;>rfl
noncomputable def yExt4:YCallT:=fun f us=>if f=40 then choY us else yExt3 f us
theorem w1K(lim:Nat):CallsOK lim (callOf (run (awExt 10) (progOf 10 prog true) lim)) md yExt4:=CallsOK.or (K1F lim) (J0c lim)
noncomputable def M4:YM:=⟨yExt4⟩
def HasCho(M:YM):Prop:= ∀us,M.ext 40 us=choY us
theorem K1G:HasCho M4:=fun us=>show yExt4 40 us=choY us from rfl
theorem z1q:y10 M4=some (.val (.c (.bool true))):=by
 unfold y10 yrunM
 rw[k0S]
 kernel_rfl
section
variable{M:YM}{N:Nat}{n:Int}{b1 b2 b3 b4:Bool}{l lab:List Int}{es:List E3}{u1 g1:U}{v:Nat->Bool}
theorem K1H(hM:HasCho M)(h1:l.length<=1000000)(h2:es.length<=1000000)(h3:lab.length<=1000000):y40 M n (uIs b1 l) (uEs b2 es) (uIs true lab)=some (choR n l es lab):=by
 unfold y40 yrunM
 rw[k0S]
 have:Vm.ystepR M.ext yprog md (Vm.yrun M.ext yprog md) 40 0 [.val (.st [.c (.int .i64 n),uIs b1 l,uEs b2 es]), .val (uIs true lab)] []=M.ext 40 [.st [uI n,uIs b1 l,uEs b2 es],uIs true lab]:=by kernel_rfl
 rw[this,hM]
 exact J1X ⟨n,b1,l,b2,es,lab,rfl,h1,h2,h3,rfl⟩
abbrev onC(es:List E3)(t:Nat):Prop:=Way es (fun _=>true) (t:Int) (t:Int)
theorem w1L(hN:N<=60): ∀(d s:Nat) (p:Nat->Bool),s+d=N->(∀t,t<s->p t=true)-> ∃q:Nat->Bool,(∀t,t<N->q t=true)/\y41_1 M (N:Int) g1 (uEs b2 es) (s:Int) (uB N p)=y41_2 M (N:Int) g1 (uEs b2 es) 0 (uB N q):=by
 intro d
 induction d with
 |zero=>
  intro s p hs hp
  rw[Y0c]
  simp only[show¬((s:Int)<(N:Int)) by omega,dF,bF,iF]
  exact⟨p,fun t ht=>hp t (by omega),rfl⟩
 |succ d ih=>
  intro s p hs hp
  have hsN:s<N:=by omega
  obtain⟨q,q1,q2⟩:=ih (s+1) (upd p s true) (by omega) fun t ht=>by
   unfold upd
   split
   ·rfl
   ·exact hp t (by omega)
  rw[Y0c]
  simp only[show((s:Int)<(N:Int)) by omega,dY,iT,W0N hsN,j1G hsN,oS,q0a (show s<=1000000000 by omega),q2]
  exact⟨q,q1,rfl⟩
theorem w1M(he:es.length<=2000)(hok: ∀e∈es,eOK (N:Int) e=true){k:Int}{s:Nat}(hs:s<N)(hN:N<=60){p:Nat->Bool}: ∀(d i:Nat) (out:Bool),i+d=es.length->
  y41_4 M (N:Int) g1 (uEs b2 es) k (s:Int) out (i:Int) (uB N p)=y41_3 M (N:Int) g1 (uEs b2 es) k ((s+1:Nat):Int) (uB N (upd p s (p s&&(out||(es.drop i).any fun e=>decide (e.f=(s:Int))&&p e.t.toNat)))):=by
 intro d
 induction d with
 |zero=>
  intro i out hi
  rw[Y0g,dL (by omega)]
  simp only[len_uEs,oS,show¬((i:Int)<(es.length:Int)) by omega,dF,bF,iF,W0N hs,iT,W0O hs,cell_c,asB_c,j1G hs,List.any_nil,Bool.or_false,q0a (show s<=1000000000 by omega)]
  cases hps:p s<;>simp[j1G hs]
 |succ d ih=>
  intro i out hi
  have hlt:i<es.length:=by omega
  obtain⟨_,g5,g6⟩:=q0w (hok _ (lM hlt))
  obtain⟨t,ht⟩:=iZ g5
  have htN:t<N:=by omega
  have hget:(uB N p).es[t]? =some (.c (.bool (p t))):=by have:=W0O (p:=p) htN;rwa [iN]at this
  rw[Y0g,q0c hlt]
  simp only[len_uEs,oS,show((i:Int)<(es.length:Int)) by omega,dY,iT,q0l (q0b hlt),cell_uE0,cell_uE1,asI_c,ht,W0N htN,W0O htN,cell_c,asB_c,q0a (show i<=1000000000 by omega),ih (i+1) _ (by omega),List.any_cons,iN]
  cases out with
  |true=>simp
  |false=>
   by_cases hf:es[i].f=(s:Int)
   ·simp[hf,hget,U.cell,U.cells]
   ·simp[hf]
theorem w1N(he:es.length<=2000)(hok: ∀e∈es,eOK (N:Int) e=true)(hN:N<=60){k:Nat}(hk:k<=60): ∀(d s:Nat) (p:Nat->Bool),s+d=N->(∀t,t<N->onC es t->p t=true)->
  ∃q:Nat->Bool,(∀t,t<N->onC es t->q t=true)/\y41_3 M (N:Int) g1 (uEs b2 es) (k:Int) (s:Int) (uB N p)=y41_2 M (N:Int) g1 (uEs b2 es) ((k+1:Nat):Int) (uB N q):=by
 intro d
 induction d with
 |zero=>
  intro s p hs hp
  rw[Y0e]
  simp only[show¬((s:Int)<(N:Int)) by omega,dF,bF,iF,q0a (show k<=1000000000 by omega)]
  exact⟨p,hp,rfl⟩
 |succ d ih=>
  intro s p hs hp
  have hsN:s<N:=by omega
  have h4:=w1M (M:=M) (b2:=b2) (g1:=g1) (k:=(k:Int)) (p:=p) he hok hsN hN es.length 0 false (by omega)
  rw[show((0:Nat):Int)=0 from rfl,List.drop_zero,Bool.false_or]at h4
  obtain⟨q,q1,q2⟩:=ih (s+1) (upd p s (p s&&es.any fun e=>decide (e.f=(s:Int))&&p e.t.toNat)) (by omega) fun t ht hw=>by
   unfold upd
   split
   ·rename_i e
    subst e
    obtain⟨e,he1,he2,he3⟩:=K0G hw
    obtain⟨_,g5,g6⟩:=q0w (hok e he1)
    obtain⟨m,hm⟩:=iZ g5
    rw[hp t ht hw,Bool.true_and,List.any_eq_true]
    refine⟨e,he1, ?_⟩
    rw[hm]at he3⊢
    simp[he2,hp m (by omega) he3]
   ·exact hp t ht hw
  rw[Y0e]
  simp only[show((s:Int)<(N:Int)) by omega,dY,iT,h4,q2]
  exact⟨q,q1,rfl⟩
theorem w1O(hN:N<=60){p:Nat->Bool}{g2:U}: ∀(d s:Nat),s+d=N-> ∃b,y41_5 M (N:Int) g1 g2 (s:Int) (uB N p)=some (.val (.c (.bool b)))/\(b=false-> ∀t,s<=t->t<N->p t=false):=by
 intro d
 induction d with
 |zero=>
  intro s hs
  rw[Y0f]
  simp only[show¬((s:Int)<(N:Int)) by omega,dF,bF,iF]
  exact⟨false,rfl,fun _ t h1 h2=>by omega⟩
 |succ d ih=>
  intro s hs
  have hsN:s<N:=by omega
  obtain⟨b,h1,h2⟩:=ih (s+1) (by omega)
  rw[Y0f]
  simp only[show((s:Int)<(N:Int)) by omega,dY,iT,W0N hsN,W0O hsN,oS,cell_c,asB_c,q0a (show s<=1000000000 by omega),h1]
  cases hp:p s with
  |true=>exact⟨true,rfl,fun h=>by cases h⟩
  |false=>
   refine⟨b,rfl,fun hb t h3 h4=> ?_⟩
   by_cases h:t=s
   ·subst h;exact hp
   ·exact h2 hb t (by omega) h4
theorem w1P(he:es.length<=2000)(hok: ∀e∈es,eOK (N:Int) e=true)(hN:N<=60): ∀(d k:Nat) (p:Nat->Bool),k+d=N->(∀t,t<N->onC es t->p t=true)->
  ∃b,y41_2 M (N:Int) g1 (uEs b2 es) (k:Int) (uB N p)=some (.val (.c (.bool b)))/\(b=false-> ∀t,t<N-> ¬onC es t):=by
 intro d
 induction d with
 |zero=>
  intro k p hk hp
  obtain⟨b,h1,h2⟩:=w1O (M:=M) (g1:=g1) (g2:=uEs b2 es) (p:=p) hN N 0 (by omega)
  rw[show((0:Nat):Int)=0 from rfl]at h1
  rw[Y0d]
  simp only[show¬((k:Int)<(N:Int)) by omega,dF,bF,iF,h1]
  exact⟨b,rfl,fun hb t ht hw=>by have:=h2 hb t (Nat.zero_le _) ht;rw[hp t ht hw]at this;cases this⟩
 |succ d ih=>
  intro k p hk hp
  obtain⟨q,q1,q2⟩:=w1N (M:=M) (b2:=b2) (g1:=g1) he hok hN (show k<=60 by omega) N 0 p (by omega) hp
  rw[show((0:Nat):Int)=0 from rfl]at q2
  obtain⟨b,h1,h2⟩:=ih (k+1) q (by omega) q1
  rw[Y0d]
  simp only[show((k:Int)<(N:Int)) by omega,dY,iT,q2,h1]
  exact⟨b,rfl,h2⟩
theorem K1I(he:es.length<=2000)(hok: ∀e∈es,eOK (N:Int) e=true)(hN:N<=60): ∃b,y41 M (N:Int) g1 (uEs b2 es)=some (.val (.c (.bool b)))/\(b=false-> ∀t,t<N-> ¬onC es t):=by
 have hrep:(⟨true,1,List.replicate N (.c (.bool false))⟩:Sx)=uB N fun _=>false:=by
  unfold uB
  congr 1
  refine List.ext_getElem? fun j=> ?_
  by_cases h:j<N<;>simp[h,List.getElem?_replicate]
 obtain⟨q,q1,q2⟩:=w1L (M:=M) (b2:=b2) (g1:=g1) (es:=es) hN N 0 (fun _=>false) (by omega) fun t ht=>by omega
 rw[show((0:Nat):Int)=0 from rfl]at q2
 obtain⟨b,h1,h2⟩:=w1P (M:=M) (b2:=b2) (g1:=g1) he hok hN N 0 q (by omega) fun t ht _=>q1 t ht
 rw[show((0:Nat):Int)=0 from rfl]at h1
 rw[W1k]
 rw[if_pos ⟨by omega,by omega,rfl⟩,iN,hrep,q2]
 exact⟨b,h1,h2⟩
theorem w1Q{fr:List Int}{bf:Bool}{a n:Int}(he:es.length<=2000)(hf:fr.length<=1000000): ∀(d i:Nat),i+d=es.length->y43_1 M (uIs bf fr) a n g1 (uEs b2 es) (i:Int)=some (.val (.c (.bool ((es.drop i).all fun e=>decide (e.a=a)||decide (e.a∈fr))))):=by
 intro d
 induction d with
 |zero=>
  intro i hi
  rw[Y0j,dL (by omega)]
  simp only[len_uEs,oS,show¬((i:Int)<(es.length:Int)) by omega,dF,bF,iF,List.all_nil]
 |succ d ih=>
  intro i hi
  have hlt:i<es.length:=by omega
  rw[Y0j,q0c hlt]
  simp only[len_uEs,oS,show((i:Int)<(es.length:Int)) by omega,dY,iT,q0l (q0b hlt),cell_uE2,asI_c,z0N hf,toU_val,asB_c,List.all_cons,q0a (show i<=1000000000 by omega),ih (i+1) (by omega)]
  by_cases h1:es[i].a=a
  ·simp[h1]
  ·by_cases h2:es[i].a∈fr<;>simp[h1,h2]
theorem K1J{fr:List Int}{bf:Bool}{a n:Int}(he:es.length<=2000)(hf:fr.length<=1000000):y43 M n g1 (uEs b2 es) (uIs bf fr) a=some (.val (.c (.bool (es.all fun e=>decide (e.a=a)||decide (e.a∈fr))))):=by
 have:=w1Q (M:=M) (b2:=b2) (g1:=g1) (bf:=bf) (a:=a) (n:=n) he hf es.length 0 (by omega)
 rw[List.drop_zero,show((0:Nat):Int)=0 from rfl]at this
 rw[W1m]
 exact this
end
end Go.Proofs.Ythjjbkiejkhjfaa.R
