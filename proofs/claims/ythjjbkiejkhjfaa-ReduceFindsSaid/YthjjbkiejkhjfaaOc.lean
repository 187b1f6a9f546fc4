/- - -/
import Derived.Test.YthjjbkiejkhjfaaOb
set_option linter.all false
namespace Go.Proofs.Ythjjbkiejkhjfaa.R
open Go Go.Proofs.Ythjjbkiejkhjfaa.Vm
def rowU(l:List Int):U:= .sl (!l.isEmpty) (l.map uI)
def byU(N:Nat)(es:List E3):List (List U):=(List.range N).map fun s=>(List.range 12).map fun a=>rowU (ixs gBy es (12*s+a) es.length)
def openU(N:Nat)(u1:U)(b:Bool)(es:List E3):U:=
 .ref (.st [uI N,u1, .sl b (es.map uE), .sl true ((tabOf gOut es N es.length).map rowU), .sl true ((byU N es).map .st)]) 0
theorem Q1y{H:Heap}{b:Nat}(h:b<=H.next){c:List C}{r:List (List Int)}(hl:c.length=r.length)(hc: ∀x∈c,x= .nilSlice)(hr: ∀l∈r,l=[]):Tabs H b c r:=by
 refine⟨hl,fun k x l hx hk=> ?_,fun j k x y _ hx _ i o n p m e _=> ?_⟩
 ·have e1:=hc x (List.mem_of_getElem? hx)
  have e2:=hr l (List.mem_of_getElem? hk)
  subst e1 e2
  exact⟨Own.nil h 1,fun _=>rfl⟩
 ·rw[hc x (List.mem_of_getElem? hx)]at e
  cases e
theorem q1I(g:E3->Int)(es:List E3)(m:Nat): ∀l∈tabOf g es m 0,l=[]:=by
 intro l hl
 obtain⟨q,_,rfl⟩:=List.mem_map.1 hl
 rfl
theorem Q1z{M:Mach}{H:Heap}{N:Nat}{g1 g2:C}{es:List E3}(hlim:M.lim<=H.next)(hg: ∀e∈es,GoodE N e)(hes:es.length<=1000000)(hN:N<=1000000)(hsl:Sl H g2 3 (es.map rowE)):
  ∃H',f61 M (N:Int) g1 g2 H=some (.c (.ptr (H.next+2) 0),H')/\Inv H H' H.next N g1 g2 es es.length:=by
 rw[K1q]
 have hn:(0:Int)<=(N:Int)/\(N:Int)<=2 ^ 36:=⟨by omega,by omega⟩
 simp only[if_pos hn,iN,alloc_next]
 have hlen:C.len g2=some es.length:=by have:=hsl.len;simpa using this
 simp only[hlen,oS]
 have r1:(List.replicate N [C.nilSlice]).flatten=List.replicate N C.nilSlice:=by
  rw[show [C.nilSlice]=List.replicate 1 C.nilSlice from rfl,List.flatten_replicate_replicate,Nat.mul_one]
 have r2:(List.replicate N [C.nilSlice, .nilSlice, .nilSlice, .nilSlice, .nilSlice, .nilSlice, .nilSlice, .nilSlice, .nilSlice, .nilSlice, .nilSlice, .nilSlice]).flatten=List.replicate (12*N) C.nilSlice:=by
  rw[show [C.nilSlice, .nilSlice, .nilSlice, .nilSlice, .nilSlice, .nilSlice, .nilSlice, .nilSlice, .nilSlice, .nilSlice, .nilSlice, .nilSlice]=List.replicate 12 C.nilSlice from rfl,List.flatten_replicate_replicate,Nat.mul_comm]
 rw[r1,r2]
 have hinv:Inv H (Heap.alloc (Heap.alloc (Heap.alloc H (.cells 1 (List.replicate N C.nilSlice))) (.cells 12 (List.replicate (12*N) C.nilSlice))) (.cells 5 [.int .i64 N,g1,g2, .slice H.next 0 N, .slice (H.next+1) 0 N])) H.next N g1 g2 es 0:=by
  refine⟨nR _,fun i hi=> ?_, ?_,List.replicate N C.nilSlice,List.replicate (12*N) C.nilSlice,by simp,by simp, ?_, ?_, ?_⟩
  ·rw[q0g (by simp;omega),q0g (by simp;omega),q0g hi]
  ·exact alloc_new _ _
  ·rw[q0g (by simp;omega),q0g (by simp)];exact alloc_new _ _
  ·rw[q0g (by simp)];exact alloc_new _ _
  ·refine Q1y (nR _) (by simp[q0q]) (fun x hx=> ?_) (fun l hl=> ?_)
   ·rcases mA.1 hx with hx |hx<;>exact List.eq_of_mem_replicate hx
   ·rcases mA.1 hl with hl |hl<;>exact q1I _ _ _ l hl
 obtain⟨H',k1,k2⟩:=Inv.run hlim hg hes hN hsl rfl es.length 0 _ (by omega) hinv
 exact⟨H',k1,k2⟩
section
variable{H:Heap}{F:Nat->Prop}
theorem X0F: ∀l:List Int,EsR H F (l.map uI) 1 (l.map rowI).flatten
 | []=>rfl
 |n::l=>⟨[.int .i64 n],_,rfl,rfl,⟨rfl,rfl⟩,X0F l⟩
theorem K1W{b:Nat}{x:C}{l:List Int}(h:OInts H b x l)(hn:l=[]->x= .nilSlice)(hF: ∀i,b<=i->i<H.next->F i):UC H F (rowU l) [x]:=by
 by_cases hl:l=[]
 ·subst hl
  rw[hn rfl]
  exact .inl ⟨rfl,rfl,rfl⟩
 ·rcases h.2.2 with⟨_,h2⟩ |⟨i,o,cs,h1,h2,h3,h4,h5,h6⟩
  ·exact absurd (by simpa using h2) hl
  ·have hb:(!l.isEmpty)=true:=by cases l;exact absurd rfl hl;rfl
   rw[List.length_map]at h1 h5 h6
   refine .inr ⟨hb,i,o,cs,1,by rw[h1,List.length_map],hF i h2 h3,h4,by rw[List.length_map];exact h5, ?_⟩
   rw[List.length_map,h6]
   exact X0F l
theorem J0V: ∀{us:List U} {cs:List C},us.length=cs.length->(∀(k:Nat) u c,us[k]? =some u->cs[k]? =some c->UC H F u [c])->EsR H F us 1 cs
 | [],[],_,_=>rfl
 |u::us,c::cs,hl,h=>⟨[c],cs,rfl,rfl,h 0 u c rfl rfl,J0V (by simpa using hl) fun k u' c' h1 h2=>h (k+1) u' c' (by simpa using h1) (by simpa using h2)⟩
 | [],_::_,hl,_=>by cases hl
 |_::_,[],hl,_=>by cases hl
theorem k1k: ∀{us:List U} {cs:List C},us.length=cs.length->(∀(k:Nat) u c,us[k]? =some u->cs[k]? =some c->u.isSt=false/\UC H F u [c])->UCs H F us cs
 | [],[],_,_=>rfl
 |u::us,c::cs,hl,h=>⟨c,cs,rfl,(h 0 u c rfl rfl).1,(h 0 u c rfl rfl).2,k1k (by simpa using hl) fun k u' c' h1 h2=>h (k+1) u' c' (by simpa using h1) (by simpa using h2)⟩
 | [],_::_,hl,_=>by cases hl
 |_::_,[],hl,_=>by cases hl
theorem K0d: ∀{uss:List (List U)} {cs:List C},(∀us∈uss,us.length=12)->cs.length=12*uss.length->(∀(k:Nat) u c,uss.flatten[k]? =some u->cs[k]? =some c->u.isSt=false/\UC H F u [c])->EsR H F (uss.map .st) 12 cs
 | [],cs,_,hl,_=>List.length_eq_zero_iff.1 (by simpa using hl)
 |us::uss,cs,h12,hl,h=>by
  have hu:us.length=12:=h12 us (by simp)
  have hcl:12<=cs.length:=by rw[hl,List.length_cons];omega
  refine⟨cs.take 12,cs.drop 12,(List.take_append_drop 12 cs).symm,by simp;omega, ?_, ?_⟩
  ·refine k1k (by simp;omega) fun k u c h1 h2=> ?_
   have hk:k<us.length:=(gE.1 h1).1
   refine h k u c (by rw[List.flatten_cons,List.getElem?_append_left hk];exact h1) ?_
   rw[List.getElem?_take]at h2
   split at h2
   ·exact h2
   ·cases h2
  ·refine K0d (fun us' hu'=>h12 us' (by simp[hu'])) (by rw[List.length_drop,hl,List.length_cons];omega) fun k u c h1 h2=> ?_
   refine h (12+k) u c (by rw[List.flatten_cons,List.getElem?_append_right (by omega),hu,Nat.add_sub_cancel_left];exact h1) ?_
   rw[List.getElem?_drop]at h2
   exact h2
end
theorem X0G(es:List E3): ∀N,(byU N es).flatten=(tabOf gBy es (12*N) es.length).map rowU
 | 0=>rfl
 |N+1=>by
  have ih:=X0G es N
  unfold byU tabOf at*
  rw[List.range_succ (n:=N),List.map_append,List.flatten_append,ih,show 12*(N+1)=12*N+12 by omega,List.range_add]
  simp[List.map_append,Function.comp_def]
theorem Z1s{H0 H:Heap}{F:Nat->Prop}{b0 N:Nat}{g1 g2:C}{es:List E3}{u1:U}{b:Bool}(h:Inv H0 H b0 N g1 g2 es es.length)(hb:b0=H0.next)(hF: ∀i,F i->i<H0.next)(h1s:u1.isSt=false)(h1:UC H0 F u1 [g1])(h2:UC H0 F (.sl b (es.map uE)) [g2]):
  UC H (fun i=>F i\/(b0<=i/\i<H.next)) (openU N u1 b es) [.ptr (b0+2) 0]:=by
 subst hb
 have m:FLe H0 F H (fun i=>F i\/(H0.next<=i/\i<H.next)):=⟨fun i hi=> .inl hi,fun i hi=>h.old i (hF i hi)⟩
 obtain⟨c1,c2,n1,n2,t1,t2,t3⟩:=h.T
 have hnx:=h.nxt
 have row: ∀(k:Nat) x l,(c1++c2)[k]? =some x->(tabOf gOut es N es.length++tabOf gBy es (12*N) es.length)[k]? =some l->UC H (fun i=>F i\/(H0.next<=i/\i<H.next)) (rowU l) [x]:=fun k x l hx hl=>
  K1W (t3.own k x l hx hl).1 (t3.own k x l hx hl).2 fun i hi hi2=> .inr ⟨by omega,hi2⟩
 refine⟨H0.next+2,0,5,_,5,rfl, .inr ⟨by omega,by omega⟩,h.X,by simp, ?_⟩
 refine⟨_,_,rfl,rfl,⟨rfl,rfl⟩,_,_,rfl,h1s,UC.mono m h1,_,_,rfl,rfl,UC.mono m h2,_,_,rfl,rfl, ?_,_,_,rfl,rfl, ?_,rfl⟩
 ·refine .inr ⟨rfl,H0.next,0,c1,1,by simp[q0q], .inr ⟨by omega,by omega⟩,t1,by simp[q0q,n1], ?_⟩
  rw[List.drop_zero,List.length_map,q0q,Nat.mul_one,List.take_of_length_le (by omega)]
  refine J0V (by simp[q0q,n1]) fun k u c hu hc=> ?_
  rw[List.getElem?_map]at hu
  obtain⟨l,hl,rfl⟩:=oM.1 hu
  have hk:k<N:=by have:=(gE.1 hl).1;rwa [q0q]at this
  exact row k c l (by rw[List.getElem?_append_left (by omega)];exact hc) (by rw[List.getElem?_append_left (by rw[q0q];exact hk)];exact hl)
 ·have hbl:(byU N es).length=N:=by simp[byU]
  refine .inr ⟨rfl,H0.next+1,0,c2,12,by rw[List.length_map,hbl], .inr ⟨by omega,by omega⟩,t2,by rw[List.length_map,hbl];omega, ?_⟩
  rw[List.drop_zero,List.length_map,hbl,List.take_of_length_le (by omega)]
  refine K0d (fun us hus=> ?_) (by rw[hbl];exact n2) fun k u c hu hc=> ?_
  ·obtain⟨s,_,rfl⟩:=List.mem_map.1 hus
   simp
  ·rw[X0G,List.getElem?_map]at hu
   obtain⟨l,hl,rfl⟩:=oM.1 hu
   refine⟨rfl,row (N+k) c l (by rw[List.getElem?_append_right (by omega),n1,Nat.add_sub_cancel_left];exact hc) (by rw[List.getElem?_append_right (by rw[q0q];omega),q0q,Nat.add_sub_cancel_left];exact hl)⟩
def decE:List U->Option (List E3)
 | []=>some []
 | .st [.c (.int .i64 f), .c (.int .i64 t), .c (.int .i64 a)]::r=>(decE r).map (⟨f,t,a⟩:: ·)
 |_=>none
theorem X0H: ∀l:List E3,decE (l.map uE)=some l
 | []=>rfl
 |e::l=>by
  show(decE (l.map uE)).map (⟨e.f,e.t,e.a⟩:: ·)=_
  rw[X0H l]
  rfl
theorem Q0W: ∀{us:List U} {l:List E3},decE us=some l->us=l.map uE
 | [],l,h=>by cases h;rfl
 |u::us,l,h=>by
  unfold decE at h
  split at h
  ·rename_i heq;cases heq
  ·rename_i f t a r heq
   cases heq
   obtain⟨l',h1,rfl⟩:=oM.1 h
   rw[Q0W h1]
   rfl
  ·cases h
instance (N:Nat) (e:E3):Decidable (GoodE N e):=inferInstanceAs (Decidable (_/\_/\_/\_))
def good(n:Int)(l:List E3):Bool:=decide (0<=n/\n<=1000000/\l.length<=1000000)&&l.all fun e=>decide (GoodE n.toNat e)
def openY:List U->Option Rz
 | [.st [.c (.int .i64 n),u1, .sl b es]]=>(decE es).bind fun l=>if good n l=true then some (.val (openU n.toNat u1 b l))else none
 |_=>none
theorem Q1A{n:Int}{u1:U}{b:Bool}{l:List E3}(h:good n l=true):openY [.st [uI n,u1, .sl b (l.map uE)]]=some (.val (openU n.toNat u1 b l)):=by
 show(decE (l.map uE)).bind (fun l=>if good n l=true then some (Rz.val (openU n.toNat u1 b l))else none)=_
 rw[X0H,oS,if_pos h]
theorem Z1t{lim:Nat}{prog:FuncId->Option RFunc}{md:FuncId->List RM}(hmd:md 61=[.va])(hp:prog=progOf 10 R.prog true):CallsOK lim (callOf (run (awExt 10) prog lim)) md (fun f us=>if f=61 then openY us else none):=by
 subst hp
 intro f us r h H F vs hl hF hv
 simp only at h
 split at h
 rotate_left
 ·cases h
 rename_i hf
 subst hf
 unfold openY at h
 split at h
 rotate_left
 ·cases h
 obtain⟨l,hd,h2⟩:=oB.1 h
 split at h2
 rotate_left
 ·cases h2
 rename_i n u1 b es hgood
 cases h2
 have he:=Q0W hd
 subst he
 simp only[good,bA,dE,List.all_eq_true]at hgood
 obtain⟨⟨g1,g2,g3⟩,g4⟩:=hgood
 obtain⟨v,_,rfl,hv1,rfl⟩:=hv
 cases v with
 |c c=>exact absurd hv1.1 (by simp[U.isSt])
 |tuple _=>exact absurd hv1 id
 |agg xs=>
  obtain⟨us,e,hx⟩:=hv1
  cases e
  obtain⟨c0,_,rfl,_,k0,c1,_,rfl,s1,k1,c2,_,rfl,_,k2,rfl⟩:=hx
  have e0:c0= .int .i64 n:=by have:=z0l (n:=n) k0;simpa using this
  subst e0
  obtain⟨N,rfl⟩:=iZ g1
  rw[iN]at g4
  obtain⟨H',r1,r2⟩:=Q1z (M:=⟨awExt 10,lim,true⟩) (H:=H) (N:=N) (g1:=c1) (g2:=c2) (es:=l) hl g4 g3 (by omega) (w1J hF k2)
  refine⟨.c (.ptr (H.next+2) 0),H',fun i=>F i\/(H.next<=i/\i<H'.next),r1,by have:=r2.nxt;omega,fun i hi=>r2.old i hi,fun i hi=> .inl hi,fun i hi=>hi.imp id And.left,fun i hi=> ?_, ?_⟩
  ·rcases hi with hi |hi
   ·have:=hF i hi;have:=r2.nxt;omega
   ·exact hi.2
  ·rw[hmd]
   exact⟨rfl,by rw[iN];exact Z1s r2 rfl hF s1 k1 k2⟩
theorem CallsOK.or{lim:Nat}{vcall:CallT}{md:FuncId->List RM}{A:FuncId}{f1 f2:YCallT}(h1:CallsOK lim vcall md (fun f us=>if f=A then f1 f us else none))(h2:CallsOK lim vcall md f2):CallsOK lim vcall md (fun f us=>if f=A then f1 f us else f2 f us):=by
 intro f us r h H F vs hl hF hv
 by_cases hf:f=A
 ·exact h1 f us r (by simp only[if_pos hf]at h⊢;exact h) H F vs hl hF hv
 ·exact h2 f us r (by simp only[if_neg hf]at h;exact h) H F vs hl hF hv
def yExt2:YCallT:=fun f us=>if f=61 then openY us else yExt 10 f us
end Go.Proofs.Ythjjbkiejkhjfaa.R
