/- - -/
import Derived.Test.YthjjbkiejkhjfaaPe
import Derived.Test.YthjjbkiejkhjfaaWt
set_option linter.all false
namespace Go.Proofs.Ythjjbkiejkhjfaa.R
open Go Go.Proofs.Ythjjbkiejkhjfaa.Vm
theorem w0R{H:Heap}{F:Nat->Prop}{α:Type}{p:α->Bool}: ∀{l:List α} {cs:List C},UCs H F (l.map fun j=> .c (.bool (p j))) cs->cs=l.map fun j=> .bool (p j)
 | [],cs,h=>h
 |a::l,cs,h=>by
  obtain⟨c,cs',rfl,_,h2,h3⟩:=h
  have:c= .bool (p a):=by have:=h2.2;simpa using this
  rw[this,w0R h3]
  rfl
theorem w0S{H:Heap}{F:Nat->Prop}{α:Type}{p:α->Bool}: ∀{l:List α},UCs H F (l.map fun j=> .c (.bool (p j))) (l.map fun j=> .bool (p j))
 | []=>rfl
 |a::l=>⟨_,_,rfl,rfl,⟨rfl,rfl⟩,w0S⟩
theorem J1B{Z A B:List C}{g d:C}(hZ:Z.length=158)(hA:A.length=144)(hB:B.length=12):splice (splice (splice (splice Z 0 [g]) 1 A) 145 B) 157 [d]=[g]++(A++(B++([d]++[]))):=by
 have h1:splice Z 0 [g]=[g]++Z.drop 1:=by rw[q0Z (by simp;omega)];simp
 have h2:splice ([g]++Z.drop 1) 1 A=[g]++A++Z.drop 145:=by
  rw[q0Z (by simp;omega),hA]
  simp
 have h3:splice ([g]++A++Z.drop 145) 145 B=[g]++A++B++Z.drop 157:=by
  rw[q0Z (by simp;omega),hB]
  have e1:([g]++A++Z.drop 145).take 145=[g]++A:=List.take_left' (by simp[hA])
  have e2:([g]++A++Z.drop 145).drop (145+12)=Z.drop 157:=by
   rw[show 145+12=([g]++A).length+12 by simp[hA],List.drop_append,dL (by simp)]
   simp[hA]
  rw[e1,e2]
 have h4:splice ([g]++A++B++Z.drop 157) 157 [d]=[g]++A++B++[d]:=by
  rw[q0Z (by simp;omega)]
  have e1:([g]++A++B++Z.drop 157).take 157=[g]++A++B:=List.take_left' (by simp[hA,hB])
  have e2:([g]++A++B++Z.drop 157).drop (157+[d].length)=[]:=dL (by simp;omega)
  rw[e1,e2];simp
 rw[h1,h2,h3,h4]
 simp
def chC(g:C)(D:Nat->Nat->Bool)(v:Nat->Bool)(cc:C):List C:=[g]++(((List.range 144).map fun j=> .bool (D (j / 12) (j % 12)))++(((List.range 12).map fun a=> .bool (v a))++([cc]++[])))
theorem j1o(g:C)(D:Nat->Nat->Bool)(v:Nat->Bool)(cc:C):(chC g D v cc).length=158:=by simp[chC]
theorem K1j{H:Heap}{F:Nat->Prop}{g cc:C}{gu cu:U}{D:Nat->Nat->Bool}{v:Nat->Bool}{io:Nat}(hio:H.get io=some (.cells 158 (chC g D v cc)))(hF:F io)(hg:UC H F gu [g])(hgs:gu.isSt=false)(hc:UC H F cu [cc])(hcs:cu.isSt=false):UC H F (chU gu D v cu) [.ptr io 0]:=by
 refine⟨io,0,158,_,158,rfl,hF,hio,by rw[j1o];omega, ?_⟩
 rw[List.drop_zero,List.take_of_length_le (by rw[j1o];omega)]
 show UCs H F _ _
 exact UCs.append (UC.nst hg hgs) (UCs.append w0S (UCs.append w0S (UCs.append (UC.nst hc hcs) rfl)))
section
variable{N:Nat}{lim:Nat}{es:List E3}{u1:U}{b1 b2:Bool}{lab:List Int}
theorem K1k{H:Heap}{F:Nat->Prop}(hl:lim<=H.next)(hF: ∀i,F i->i<H.next)(hN:N<=60)(he:es.length<=2000)(hed:edgesOK (N:Int) none es=true)(hlab:lab.length=N){x1 x2 cl cc:C}
  (hg:UVs H F [.st [uI (N:Int),u1,uEs b2 es]] [.agg [.int .i64 (N:Int),x1,x2]]) (hcl:UC H F (uIs b1 lab) [cl]):
  ∃H' F' io gc,f52 (MH lim) (N:Int) x1 x2 cl cc H=some (.c (.ptr io 0),H')/\FrX none H F H' F'/\H.next<=io/\io<H'.next/\F' io/\H'.get io=some (.cells 158 (chC gc (DD es N) (visB lab es) cc))/\UC H' F' (openU N u1 b2 es) [gc]:=by
 have hok:=j0V hed
 obtain⟨v1,H1,F1,c1,c2,c3⟩:=z0V (lim:=lim) (f:=61) (us:=[.st [uI (N:Int),u1,uEs b2 es]]) (vs:=[.agg [.int .i64 (N:Int),x1,x2]]) (Z1O (M:=MM) Z1G hN he hed) rfl hl hF hg
 obtain⟨gc,rfl,c4⟩:=c3.one rfl
 have c1':f61 (MH lim) (N:Int) x1 x2 H=some (.c gc,H1):=c1
 have A1:=c2
 obtain⟨v2,H2,F2,d1,d2,d3⟩:=z0V (lim:=lim) (f:=67) (us:=[openU N u1 b2 es]) (vs:=[.c gc]) (K1w (M:=MM) hN he hok (w0U hed).2) rfl (nT hl A1.next) A1.lt ⟨_,_,rfl,⟨rfl,c4⟩,rfl⟩
 have d1':f67 (MH lim) gc H1=some (v2,H2):=d1
 have A2:=A1.trans d2
 obtain⟨v3,H3,F3,e1,e2,e3⟩:=z0V (lim:=lim) (f:=66) (us:=[openU N u1 b2 es,uIs b1 lab]) (vs:=[.c gc, .c cl]) (K1y (M:=MM) (N:=N) hlab he hok) rfl (nT hl A2.next) A2.lt
  ⟨_,_,rfl,⟨rfl,c4.mono (d2.le0 A1.lt)⟩,_,_,rfl,⟨rfl,hcl.mono (A2.le0 hF)⟩,rfl⟩
 have e1':f66 (MH lim) gc cl H2=some (v3,H3):=e1
 have A3:=A2.trans e2
 cases v2 with
 |c c=>exact absurd d3.1 (by simp[U.isSt,bQ])
 |tuple _=>exact absurd d3 id
 |agg ca=>
  obtain⟨us,eu,d4⟩:=d3
  cases eu
  have hca:=w0R d4
  cases v3 with
  |c c=>exact absurd e3.1 (by simp[U.isSt,bV])
  |tuple _=>exact absurd e3 id
  |agg cb=>
   obtain⟨us,eu,e4⟩:=e3
   cases eu
   have hcb:cb=[.bool (visB lab es 0), .bool (visB lab es 1), .bool (visB lab es 2), .bool (visB lab es 3), .bool (visB lab es 4), .bool (visB lab es 5), .bool (visB lab es 6), .bool (visB lab es 7), .bool (visB lab es 8), .bool (visB lab es 9), .bool (visB lab es 10), .bool (visB lab es 11)]:=w0R e4
   subst hcb
   have hcal:ca.length=144:=by rw[hca];simp
   have hZ:(C.nilPtr::(List.replicate 156 (.bool false)++[.nilSlice])).length=158:=by simp
   have P4:=FrX.allocF (H:=H3) (F:=F3) (.cells 158 (chC gc (DD es N) (visB lab es) cc)) A3.lt
   have A4:=A3.trans P4
   refine⟨_,_,H3.next,gc, ?_,A4,A3.next,Nat.lt_succ_self _, .inr rfl,alloc_new _ _,c4.mono ((d2.le0 A1.lt).trans ((e2.le0 A2.lt).trans (P4.le0 A3.lt)))⟩
   have hcd:V.cells (.agg ca)=some ca:=rfl
   have hsp:=J1B (Z:=C.nilPtr::(List.replicate 156 (.bool false)++[.nilSlice])) (A:=ca) (B:=[.bool (visB lab es 0), .bool (visB lab es 1), .bool (visB lab es 2), .bool (visB lab es 3), .bool (visB lab es 4), .bool (visB lab es 5), .bool (visB lab es 6), .bool (visB lab es 7), .bool (visB lab es 8), .bool (visB lab es 9), .bool (visB lab es 10), .bool (visB lab es 11)]) (g:=gc) (d:=cc) hZ hcal rfl
   have hch:chC gc (DD es N) (visB lab es) cc=[gc]++(ca++([.bool (visB lab es 0), .bool (visB lab es 1), .bool (visB lab es 2), .bool (visB lab es 3), .bool (visB lab es 4), .bool (visB lab es 5), .bool (visB lab es 6), .bool (visB lab es 7), .bool (visB lab es 8), .bool (visB lab es 9), .bool (visB lab es 10), .bool (visB lab es 11)]++([cc]++[]))):=by rw[hca];rfl
   rw[K1o]
   simp only[c1',d1',e1',oS,V.asC,V.asA,headC,C.asB,List.drop_succ_cons,List.drop_zero,List.length_nil,iT,hcd,hcal,j0e,hZ,List.length_cons,show 1+144<=158 by omega,show 145+12<=158 by omega,show 157+1<=158 by omega,and_self,hsp]
   rw[<-hch]
end
end Go.Proofs.Ythjjbkiejkhjfaa.R
