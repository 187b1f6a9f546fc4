/- - -/
import Derived.Test.YtglkhoamnmiolaaTk
set_option linter.all false
namespace Go.Proofs.Ytglkhoamnmiolaa.R
open Go Go.Proofs.Ytglkhoamnmiolaa.Vm
def sxI(l:List Int):Sx:=if l=[]then⟨false,0,[]⟩else⟨true,1,l.map uI⟩
theorem Q0k(l:List Int):(sxI l).es=l.map uI:=by
 unfold sxI
 split
 ·rename_i h;rw[h];rfl
 ·rfl
theorem J0H(l:List Int):Sx.fz (sxI l)=uIs (!l.isEmpty) l:=by
 unfold sxI
 cases l with
 |nil=>rfl
 |cons x l=>rfl
theorem Q1v(l:List Int):IsOp (sxI l) l:=by
 refine⟨Q0k l, ?_,fun h=>by simp[sxI,h]⟩
 unfold sxI
 split
 ·exact .inl rfl
 ·exact .inr rfl
theorem Z0K(l:List Int)(x:Int)(hn:l.length<=1000000000):Sx.app (sxI l) 1 [uI x]=some (sxI (l++[x])):=by
 have hr:roomy ((sxI l).es.length+[uI x].length):=by rw[Q0k];show _<=_;simp;omega
 have h:=Q1v l
 unfold Sx.app
 rw[if_pos ⟨h.z,by simp[U.size,U.cells],hr⟩,if_neg (by simp),Q0k]
 simp[sxI]
theorem J0I(l:List Int):scals (sxI l).es=true:=by rw[Q0k];exact Q0l l
def numsL(a:Nat)(num:Nat->Int):List Int:=(List.range a).map num
theorem j0B{a:Nat}{num:Nat->Int}{i:Nat}(h:i<a):(numsL a num)[i]? =some (num i):=by simp[numsL,h]
def keptL(num:Nat->Int)(l:List Int):List Int:=(l.filter fun s=> !decide (num s.toNat= -1)).map fun s=>num s.toNat
theorem X0v{num:Nat->Int}{l:List Int}{i:Nat}{x:Int}(h:l[i]? =some x):keptL num (l.take (i+1))=keptL num (l.take i)++(if(!decide (num x.toNat= -1))=true then [num x.toNat]else []):=by
 rw[List.take_add_one,h]
 unfold keptL
 rw[Option.toList_some,List.filter_append,List.map_append]
 congr 1
 by_cases e:(!decide (num x.toNat= -1))=true
 ·rw[if_pos e];simp only[List.filter_cons,e,iT,List.filter_nil,List.map_cons,List.map_nil]
 ·rw[if_neg e];simp only[List.filter_cons,e,iF,List.filter_nil,List.map_nil];rfl
theorem w0C(num:Nat->Int)(l:List Int):(keptL num l).length<=l.length:=by rw[keptL,List.length_map];exact List.length_filter_le _ _
section
variable{M:YM}{a:Nat}{num:Nat->Int}{b bn:Bool}{l:List Int}
theorem j1K(hl: ∀s∈l,0<=s/\s<(a:Int))(hll:l.length<=1000000): ∀(d i:Nat),i+d=l.length->
  y96_1 M (.ref (.sl bn ((numsL a num).map uI)) 0) (uIs b l) (l.length:Int) (i:Int) (sxI (keptL num (l.take i)))=some (.sl (sxI (keptL num l))):=by
 intro d
 induction d with
 |zero=>
  intro i hi
  rw[W0b,List.take_of_length_le (by omega)]
  simp only[show¬((i:Int)<(l.length:Int)) by omega,dF,bF,iF,J0I,iT]
 |succ d ih=>
  intro i hi
  have hlt:i<l.length:=by omega
  have hg:l[i]? =some l[i]:=q0a hlt
  obtain⟨g1,g2⟩:=hl _ (lM hlt)
  obtain⟨s,hs⟩:=iZ g1
  have hsa:s<a:=by omega
  have hk:=X0v (num:=num) hg
  rw[hs]at hg hk
  have hid:U.idx 1 (.sl bn ((numsL a num).map uI)) (s:Int)=some (uI (num s)):=q0w (j0B hsa)
  have hkl:=w0C num (l.take i)
  rw[List.length_take]at hkl
  rw[W0b]
  simp only[show((i:Int)<(l.length:Int)) by omega,dY,iT,q0w hg,oS,cell_c,asI_c,U.asR,show U.cell (.sl bn ((numsL a num).map uI)) 0=some (.sl bn ((numsL a num).map uI))from rfl,hid,j1V,q0b (show i<=1000000000 by omega)]
  rw[iN]at hk
  rw[<-ih (i+1) (by omega),hk]
  by_cases e:(!decide (num s= -1))=true
  ·simp only[e,iT,Z0K _ _ (show(keptL num (l.take i)).length<=1000000000 by omega),oS]
  ·simp only[e,iF,List.append_nil,bF]
theorem k1K(hl: ∀s∈l,0<=s/\s<(a:Int))(hll:l.length<=1000000):y96 M (uIs b l) (.ref (.sl bn ((numsL a num).map uI)) 0)=some (.sl (sxI (keptL num l))):=by
 rw[Q1W]
 simp only[len_uIs,oS]
 exact j1K hl hll l.length 0 (by omega)
end
section
variable{lim:Nat}{M:YM}(hM:CallsY lim M.ext){H0:Heap}{F:Nat->Prop}{b a:Nat}{b1 b2 b3:Bool}{l:List Int}{es:List E4}{xs:List (Bool×List Int)}{c1 c2 c3:C}
variable(A:AU lim H0 F b a l es xs b1 b2 b3 c1 c2 c3)
include hM A
theorem Y0m:
  ∀(d i:Nat) (H:Heap) (ps:List (Int×Int)),i+d=es.length->ps.length+d<=1000000->FrB b H0 H->TabO H b (tabD a ps)->
  ∃H',f72_1 (MH lim) (a:Int) c1 c2 c3 (.slice b 0 a) c2 (es.length:Int) (i:Int) H=f72_3 (MH lim) (a:Int) c1 c2 c3 (.slice b 0 a) .nilSlice c3 (xs.length:Int) 0 H'/\
   FrB b H0 H'/\TabO H' b (tabD a (ps++psU (es.drop i))):=by
 intro d
 induction d with
 |zero=>
  intro i H ps hi hps f t
  refine⟨H, ?_,f,by rw[dL (by omega)];simpa[psU]using t⟩
  rw[Q0S]
  simp only[show¬((i:Int)<(es.length:Int)) by omega,dF,bF,iF,w1M (J0F A.u3 f A.hF),oS]
 |succ d ih=>
  intro i H ps hi hps f t
  have hlt:i<es.length:=by omega
  have hg:es[i]? =some es[i]:=q0a hlt
  have ha:=A.ha;have he:=A.he
  obtain⟨⟨s,hs1,hs2⟩,⟨t',ht1,ht2⟩,hb1,hb2⟩:=J0Z A.ok hg
  obtain⟨i1,o1,g1,g2,g3,g4,g5,g6⟩:=rdE (J0F A.u2 f A.hF) hg
  have hF: ∀i,F i->i<H.next:=fun i hi=>nL (A.hF i hi) f.next
  obtain⟨v2,H2,F2,m1,m2,m3⟩:=X0y hM (f:=69) (us:=[uE es[i]]) (vs:=[.agg [.int .i64 es[i].f, .int .i64 es[i].t, .int .i64 es[i].n, .int .i64 es[i].v]]) (J1w (M:=M) es[i]) rfl (nT A.hl f.next) hF ⟨_,[],rfl,q1b _,rfl⟩
  have:=m3.bool
  subst this
  have f2:=f.fr (J0Y m2)
  have t2:=t.grow (J0Y m2)
  have q2:f69 (MH lim) es[i].f es[i].t es[i].n es[i].v H=some (.c (.bool (cr es[i])),H2):=m1
  have eI:IntKind.wrap .i64 ((i:Int)+1)=((i+1:Nat):Int):=q0b (by omega)
  rw[List.drop_eq_getElem_cons hlt]
  by_cases hr:cr es[i]=true
  ·have hrl:=j0n ps s
   obtain⟨x,z1,z2,c',H3,z3,z4,H4,z5,z6,z7,z8⟩:=t2.push (lim:=lim) A.hl (j0E hs2) es[i].t (by omega)
   rw[<-k0h hs2]at z6
   obtain⟨H',y1,y2,y3⟩:=ih (i+1) H4 (ps++[(es[i].t,(s:Int))]) (by omega) (by simp;omega) ⟨nT f2.next z8,fun j hj=>by rw[z7 j hj];exact f2.old j hj⟩ z6
   refine⟨H', ?_,y2, ?_⟩
   ·rw[Q0S]
    simp only[show((i:Int)<(es.length:Int)) by omega,dY,iT,g1,g3,g4,g5,g6,oS,asI_int,q2,asC_c,asB_bool,hr]
    simp only[hs1,q0g hs2,z1,z2,z3,z5,oS,W0n,eI,y1]
   ·rw[Y0u hr,hs1]
    rw[List.append_assoc]at y3
    exact y3
  ·simp only[Bool.not_eq_true]at hr
   obtain⟨H',y1,y2,y3⟩:=ih (i+1) H2 ps (by omega) (by omega) f2 t2
   refine⟨H', ?_,y2, ?_⟩
   ·rw[Q0S]
    simp only[show((i:Int)<(es.length:Int)) by omega,dY,iT,g1,g3,g4,g5,g6,oS,asI_int,q2,asC_c,asB_bool,hr,bF,iF,W0n,eI,y1]
   ·rw[k1S hr];exact y3
theorem Y0n{Hm:Heap}(fm:FrB b H0 Hm){tab:C}:
  ∀(d k:Nat) (H:Heap) (G:Nat->Prop) (c:C),k+d=xs.length->Grow Hm H->(∀i,F i->G i)->(∀i,G i->i<H.next)->(∀i,G i->F i\/Hm.next<=i)->OutR Hm.next H G 1 ((setsU a (xs.take k)).map setU) c->
  ∃(H':Heap) (G':Nat->Prop) (c':C),f72_3 (MH lim) (a:Int) c1 c2 c3 tab c c3 (xs.length:Int) (k:Int) H=some (.tuple [.c tab, .c c'],H')/\
   Grow Hm H'/\(∀i,F i->G' i)/\(∀i,G' i->i<H'.next)/\(∀i,G' i->F i\/Hm.next<=i)/\OutR Hm.next H' G' 1 ((setsU a xs).map setU) c':=by
 have ha:=A.ha;have hx8:=A.hx
 intro d
 induction d with
 |zero=>
  intro k H G c hk g h1 h2 h3 h4
  have:k=xs.length:=by omega
  subst this
  rw[List.take_length]at h4
  refine⟨H,G,c, ?_,g,h1,h2,h3,h4⟩
  rw[W0o]
  simp only[Int.lt_irrefl,dF,bF,iF]
 |succ d ih=>
  intro k H G c hk g h1 h2 h3 h4
  have hlt:k<xs.length:=by omega
  have hg:xs[k]? =some xs[k]:=q0a hlt
  obtain⟨hx1,hx2⟩:=A.hxs _ (lM hlt)
  have fa:FrB b H0 H:=fm.fr g
  obtain⟨i1,o1,cc,g1,g2,g3,g4⟩:=rdL (J0F A.u3 fa A.hF) hg
  have g4':UC H G (uIs xs[k].1 xs[k].2) [cc]:=g4.mono ⟨h1,fun i hi=>rfl⟩
  obtain⟨v,H1,G1,m1,m2,m3⟩:=X0y hM (f:=85) (us:=[uIs xs[k].1 xs[k].2,uI (a:Int), .fn 97 [] []]) (vs:=[.c cc, .c (.int .i64 (a:Int)), .c (.func 97 [] [])]) (J1z (M:=M) (b:=xs[k].1) (by omega) hx1) rfl (nT A.hl fa.next) h2 ⟨_,_,rfl,⟨rfl,g4'⟩,_,_,rfl,w1a,_,_,rfl,⟨rfl,[],[],rfl,rfl,rfl⟩,rfl⟩
  obtain⟨vc,rfl,m4⟩:=m3.one rfl
  have q1:f85 (MH lim) cc (a:Int) (.func 97 [] []) H=some (.c vc,H1):=m1
  have f2:FrX none H G (H1.alloc (.cells 1 [vc])) G1:=m2.trans (FrX.alloc _ m2.lt)
  have o2:=h4.fr f2 (fun i e=>by cases e) h2
  have u2:UC (H1.alloc (.cells 1 [vc])) G1 (setU (markL a xs[k].2)) [vc]:=m4.mono ⟨fun _ h=>h,fun i hi=>q0f (m2.lt i hi)⟩
  obtain⟨c',H2,y1,y2,y3,y4,y5⟩:=o2.app (lim:=lim) (nT A.hl fm.next) f2.lt (nT g.next f2.next) u2 rfl (by simp[setsU];omega)
  have e:(setsU a (xs.take (k+1))).map setU=(setsU a (xs.take k)).map setU++[setU (markL a xs[k].2)]:=by
   rw[List.take_add_one,hg]
   simp only[setsU,Option.toList_some,List.map_append,List.map_cons,List.map_nil]
  obtain⟨H',G',c'',q,q'⟩:=ih (k+1) H2 G1 c' (by omega) ⟨nT g.next (nT f2.next y3),fun i hi=>by
    rw[y5 i hi,f2.keep i (nL hi g.next) (fun e=>by cases e)];exact g.keep i hi⟩ (fun i hi=>f2.sub i (h1 i hi)) (fun i hi=>nL (f2.lt i hi) y3)
   (fun i hi=>(f2.new i hi).elim (h3 i) fun e=> .inr (nT g.next e)) (by rw[e];exact y2)
  refine⟨H',G',c'', ?_,q'⟩
  rw[W0o]
  simp only[show((k:Int)<(xs.length:Int)) by omega,dY,iT,g1,g3,oS,q1,asC_c,z0N,y1,q0b (show k<=1000000000 by omega),q]
end
section
variable{lim:Nat}{M:YM}(hM:CallsY lim M.ext){H:Heap}{F:Nat->Prop}{a:Nat}{b1 b2 b3:Bool}{l:List Int}{es:List E4}{xs:List (Bool×List Int)}{c1 c2 c3:C}
variable(A:AU lim H F H.next a l es xs b1 b2 b3 c1 c2 c3)
include hM A
theorem w1r: ∃(c':C) (H':Heap) (bb:Bool),f72 (MH lim) (a:Int) c1 c2 c3 H=some (.tuple [.c (.slice H.next 0 a), .c c'],H')/\Grow H H'/\
  UC H' (fun i=>F i\/(H.next<=i/\i<H'.next)) (uLs true (rowsU a es)) [.slice H.next 0 a]/\UC H' (fun i=>F i\/(H.next<=i/\i<H'.next)) (.sl bb ((setsU a xs).map setU)) [c']:=by
 have ha:=A.ha;have hx8:=A.hx;have he:=A.he
 have t0:=TabO.new H a
 rw[<-w0n]at t0
 have fr0:FrB H.next H (H.alloc (.cells 1 (List.replicate a [C.nilSlice]).flatten)):=⟨Nat.le_succ _,fun i hi=>q0f hi⟩
 obtain⟨Hm,g1,g2,g3⟩:=Y0m hM A es.length 0 _ [] (by omega) (by simp;omega) fr0 t0
 rw[List.drop_zero,List.nil_append]at g3
 have hFm: ∀i,F i->i<Hm.next:=fun i hi=>nL (A.hF i hi) g2.next
 obtain⟨H2,G,c',k1,k2,k3,k4,k5,k6⟩:=Y0n hM A g2 (tab:= .slice H.next 0 a) xs.length 0 Hm F .nilSlice (by omega) (.refl _) (fun _ h=>h) hFm (fun _ h=> .inl h) .nil
 have hGF: ∀i,G i->(F i\/(H.next<=i/\i<H2.next)):=fun i hi=>(k5 i hi).imp id fun h=>⟨nT g2.next h,k4 i hi⟩
 obtain⟨G2,p1,p2,bb,_,p3⟩:=k6.fin k4
 refine⟨c',H2,bb, ?_,⟨nT g2.next k2.next,(g2.fr k2).old⟩, ?_,p3.mono ⟨fun i hi=>(p2 i hi).elim (hGF i) fun h=> .inr ⟨nT g2.next h.1,h.2⟩,fun _ _=>rfl⟩⟩
 ·rw[J1c]
  rw[if_pos ⟨by omega,by omega⟩]
  simp only[iN,J1o A.u2,oS]
  rw[show((0:Nat):Int)=0 from rfl]at g1 k1
  rw[g1,k1]
 ·have:=(g3.grow k2).uc (F:=fun i=>F i\/(H.next<=i/\i<H2.next)) fun i hi hi2=> .inr ⟨hi,hi2⟩
  rw[j0e]at this
  exact this
end
end Go.Proofs.Ytglkhoamnmiolaa.R
