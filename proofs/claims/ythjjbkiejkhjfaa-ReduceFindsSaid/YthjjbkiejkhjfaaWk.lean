/- - -/
import Derived.Test.YthjjbkiejkhjfaaWj
set_option linter.all false
namespace Go.Proofs.Ythjjbkiejkhjfaa.R
open Go Go.Proofs.Ythjjbkiejkhjfaa.Vm
variable{M:YM}
section
variable{N:Nat}{n:Int}{b1 b2 b3:Bool}{l:List Int}{es:List E3}{u1:U}
theorem j0a{j:Nat}{e:E3}(h:es[j]? =some e):toOf es (j:Int)=e.t:=by unfold toOf;rw[iN,h];rfl
theorem j1I(hok: ∀e∈es,eOK (N:Int) e=true){j:Nat}{e:E3}(h:es[j]? =some e): ∃t:Nat,e.t=(t:Int)/\t<N:=by
 obtain⟨_,h5,h6⟩:=q0w (hok e (List.mem_of_getElem? h))
 exact⟨e.t.toNat,by omega,by omega⟩
theorem q0c{α:Type}{l:List α}{k:Nat}(h:k<l.length):l.drop k=l[k]::l.drop (k+1):=List.drop_eq_getElem_cons h
theorem w1p(he:es.length<=2000)(hok: ∀e∈es,eOK (N:Int) e=true)(hs:es.Pairwise lt3){z0 z1 z2 z3 x26 x27 x63 x64:Int}{x62:U}{s a b:Nat}(ha:a<12)(hb:b<12){i:Int}(hi:i∈stepsL es (s:Int) (a:Int)): ∀(d k:Nat),k+d=(stepsL es (s:Int) (b:Int)).length->
  y70_3 M (openU N u1 b2 es) (a:Int) (b:Int) z0 z1 z2 z3 (s:Int) i x26 x27 x62 x63 x64 (rowU (stepsL es (s:Int) (b:Int))) ((stepsL es (s:Int) (b:Int)).length:Int) (k:Int)=
   match((stepsL es (s:Int) (b:Int)).drop k).find? (fun k=> !mB es (toOf es i) (b:Int) (toOf es k) (a:Int))with
   |some k=>tupC (s:Int) 1 i k
   |none=>y70_2 M (openU N u1 b2 es) (a:Int) (b:Int) z0 z1 z2 z3 (s:Int) x26 x27 x62 x63 (IntKind.wrap .i64 (x64+1)):=by
 obtain⟨v,v0,v1,v2,v3,v4,v5⟩:=q0f N u1 b2 es
 obtain⟨ji,ei,rfl,hi2,_⟩:=mem_steps.1 hi
 obtain⟨ti,hti,htN⟩:=j1I hok hi2
 have hlen:=q0k (es:=es) (s:Int) (b:Int)
 intro d
 induction d with
 |zero=>
  intro k hk
  rw[Y0A,dL (by omega)]
  simp only[show¬((k:Int)<((stepsL es (s:Int) (b:Int)).length:Int)) by omega,dF,bF,iF,List.find?_nil]
 |succ d ih=>
  intro k hk
  have hlt:k<(stepsL es (s:Int) (b:Int)).length:=by omega
  obtain⟨jk,ek,hjk,hk2,_⟩:=mem_steps.1 (lM hlt)
  rw[Y0A,q0c hlt,List.find?_cons]
  simp only[show((k:Int)<((stepsL es (s:Int) (b:Int)).length:Int)) by omega,dY,iT,j0y (q0b hlt),oS,cell_c,asI_c,v0,v3,q0l hi2,cell_uE1,j0a hi2,q0a (show k<=1000000000 by omega),ih (k+1) (by omega)]
  rw[hjk]
  simp only[q0l hk2,oS,cell_uE1,asI_c,j0a hk2,hti,K1v he hok hs htN hb,toU_val,asB_c]
  cases mB es (ti:Int) (b:Int) ek.t (a:Int)<;>rfl
theorem w1q(he:es.length<=2000)(hok: ∀e∈es,eOK (N:Int) e=true)(hs:es.Pairwise lt3){z0 z1 z2 z3 x26 x27:Int}{s a b:Nat}(hsN:s<N)(ha:a<12)(hb:b<12): ∀(d k:Nat),k+d=(stepsL es (s:Int) (a:Int)).length->
  y70_2 M (openU N u1 b2 es) (a:Int) (b:Int) z0 z1 z2 z3 (s:Int) x26 x27 (rowU (stepsL es (s:Int) (a:Int))) ((stepsL es (s:Int) (a:Int)).length:Int) (k:Int)=
   match find2 (fun _=>stepsL es (s:Int) (b:Int)) (fun i k=>mB es (toOf es i) (b:Int) (toOf es k) (a:Int)) ((stepsL es (s:Int) (a:Int)).drop k)with
   |some (i,k)=>tupC (s:Int) 1 i k
   |none=>y70_4 M (openU N u1 b2 es) (a:Int) (b:Int) z0 z1 z2 z3 (s:Int) x26 x27 (rowU (stepsL es (s:Int) (a:Int))) ((stepsL es (s:Int) (a:Int)).length:Int) 0:=by
 obtain⟨v,v0,v1,v2,v3,v4,v5⟩:=q0f N u1 b2 es
 obtain⟨w,w1,w2⟩:=z0O hok hsN ha
 obtain⟨w',w3,w4⟩:=z0O hok hsN hb
 have hlen:=q0k (es:=es) (s:Int) (a:Int)
 intro d
 induction d with
 |zero=>
  intro k hk
  rw[Y0z,dL (by omega)]
  simp only[show¬((k:Int)<((stepsL es (s:Int) (a:Int)).length:Int)) by omega,dF,bF,iF,find2,v0,v5,w1,w2,oS,show(0:Int)<=(a:Int)/\(a:Int)<((12:Nat):Int)from⟨by omega,by omega⟩,and_self,iT,len_rowU]
 |succ d ih=>
  intro k hk
  have hlt:k<(stepsL es (s:Int) (a:Int)).length:=by omega
  have h3:=w1p (M:=M) (N:=N) (u1:=u1) (b2:=b2) he hok hs (z0:=z0) (z1:=z1) (z2:=z2) (z3:=z3) (x26:=x26) (x27:=x27) (x62:=rowU (stepsL es (s:Int) (a:Int))) (x63:=((stepsL es (s:Int) (a:Int)).length:Int)) (x64:=(k:Int)) (s:=s) ha hb (lM hlt) _ 0 (Nat.zero_add _)
  rw[show((0:Nat):Int)=0 from rfl,List.drop_zero]at h3
  rw[Y0z,q0c hlt]
  simp only[show((k:Int)<((stepsL es (s:Int) (a:Int)).length:Int)) by omega,dY,iT,j0y (q0b hlt),oS,cell_c,asI_c,v0,v5,w3,w4,len_rowU,show(0:Int)<=(b:Int)/\(b:Int)<((12:Nat):Int)from⟨by omega,by omega⟩,and_self,h3,find2,q0a (show k<=1000000000 by omega),ih (k+1) (by omega)]
  cases List.find? (fun j=> !mB es (toOf es (stepsL es (s:Int) (a:Int))[k]) (b:Int) (toOf es j) (a:Int)) (stepsL es (s:Int) (b:Int))<;>rfl
theorem w1r(he:es.length<=2000)(hok: ∀e∈es,eOK (N:Int) e=true)(hs:es.Pairwise lt3){z0 z1 z2 z3 x26 x27 x120 x121:Int}{x119:U}{s a b:Nat}(hsN:s<N)(ha:a<12)(hb:b<12){i x:Int}(hi:i∈stepsL es (s:Int) (a:Int)): ∀(d k:Nat),k+d=(stepsL es x (b:Int)).length->
  y70_5 M (openU N u1 b2 es) (a:Int) (b:Int) z0 z1 z2 z3 (s:Int) i x26 x27 x119 x120 x121 (rowU (stepsL es x (b:Int))) ((stepsL es x (b:Int)).length:Int) (k:Int)=
   match((stepsL es x (b:Int)).drop k).find? (fun k=> !tB es (s:Int) (b:Int) (a:Int) (toOf es k))with
   |some k=>tupC (s:Int) 2 i k
   |none=>y70_4 M (openU N u1 b2 es) (a:Int) (b:Int) z0 z1 z2 z3 (s:Int) x26 x27 x119 x120 (IntKind.wrap .i64 (x121+1)):=by
 obtain⟨ji,ei,rfl,hi2,_,hia⟩:=mem_steps.1 hi
 have hlen:=q0k (es:=es) x (b:Int)
 intro d
 induction d with
 |zero=>
  intro k hk
  rw[Y0C,dL (by omega)]
  simp only[show¬((k:Int)<((stepsL es x (b:Int)).length:Int)) by omega,dF,bF,iF,List.find?_nil]
 |succ d ih=>
  intro k hk
  have hlt:k<(stepsL es x (b:Int)).length:=by omega
  obtain⟨jk,ek,hjk,hk2,_,hka⟩:=mem_steps.1 (lM hlt)
  have h94:=Q1N (M:=M) (N:=N) (u1:=u1) (b2:=b2) he hok hs hi2 hk2 hka hb hsN
  rw[Y0C,q0c hlt,List.find?_cons]
  simp only[show((k:Int)<((stepsL es x (b:Int)).length:Int)) by omega,dY,iT,j0y (q0b hlt),oS,cell_c,asI_c,q0a (show k<=1000000000 by omega),ih (k+1) (by omega)]
  rw[hjk]
  simp only[h94,oS,toU_val,asB_c,j0a hk2,hia]
  cases tB es (s:Int) (b:Int) (a:Int) ek.t<;>rfl
theorem w1s(he:es.length<=2000)(hok: ∀e∈es,eOK (N:Int) e=true)(hs:es.Pairwise lt3){z0 z1 z2 z3 x26 x27:Int}{s a b:Nat}(hsN:s<N)(ha:a<12)(hb:b<12): ∀(d k:Nat),k+d=(stepsL es (s:Int) (a:Int)).length->
  y70_4 M (openU N u1 b2 es) (a:Int) (b:Int) z0 z1 z2 z3 (s:Int) x26 x27 (rowU (stepsL es (s:Int) (a:Int))) ((stepsL es (s:Int) (a:Int)).length:Int) (k:Int)=
   match find2 (fun i=>stepsL es (toOf es i) (b:Int)) (fun i k=>tB es (s:Int) (b:Int) (a:Int) (toOf es k)) ((stepsL es (s:Int) (a:Int)).drop k)with
   |some (i,k)=>tupC (s:Int) 2 i k
   |none=>y70_6 M (openU N u1 b2 es) (a:Int) (b:Int) z0 z1 z2 z3 (s:Int) x26 x27 (rowU (stepsL es (s:Int) (b:Int))) ((stepsL es (s:Int) (b:Int)).length:Int) 0 ⟨false,0,[]⟩:=by
 obtain⟨v,v0,v1,v2,v3,v4,v5⟩:=q0f N u1 b2 es
 obtain⟨w',w3,w4⟩:=z0O hok hsN hb
 have hlen:=q0k (es:=es) (s:Int) (a:Int)
 intro d
 induction d with
 |zero=>
  intro k hk
  rw[Y0B,dL (by omega)]
  simp only[show¬((k:Int)<((stepsL es (s:Int) (a:Int)).length:Int)) by omega,dF,bF,iF,find2,v0,v5,w3,w4,oS,show(0:Int)<=(b:Int)/\(b:Int)<((12:Nat):Int)from⟨by omega,by omega⟩,and_self,iT,len_rowU]
 |succ d ih=>
  intro k hk
  have hlt:k<(stepsL es (s:Int) (a:Int)).length:=by omega
  obtain⟨jk,ek,hjk,hk2,_⟩:=mem_steps.1 (lM hlt)
  obtain⟨t,ht,htN⟩:=j1I hok hk2
  obtain⟨w,w1,w2⟩:=z0O hok htN hb
  have h3:=w1r (M:=M) (N:=N) (u1:=u1) (b2:=b2) he hok hs (z0:=z0) (z1:=z1) (z2:=z2) (z3:=z3) (x26:=x26) (x27:=x27) (x119:=rowU (stepsL es (s:Int) (a:Int))) (x120:=((stepsL es (s:Int) (a:Int)).length:Int)) (x121:=(k:Int)) (s:=s) hsN ha hb (x:=(t:Int)) (lM hlt) _ 0 (Nat.zero_add _)
  rw[show((0:Nat):Int)=0 from rfl,List.drop_zero]at h3
  rw[Y0B,q0c hlt]
  simp only[show((k:Int)<((stepsL es (s:Int) (a:Int)).length:Int)) by omega,dY,iT,j0y (q0b hlt),oS,cell_c,asI_c,v0,v5,v3,find2,q0a (show k<=1000000000 by omega),ih (k+1) (by omega)]
  rw[hjk]at h3⊢
  simp only[q0l hk2,oS,cell_uE1,asI_c,j0a hk2,ht,w1,w2,len_rowU,show(0:Int)<=(b:Int)/\(b:Int)<((12:Nat):Int)from⟨by omega,by omega⟩,and_self,iT,h3,q0a (show k<=1000000000 by omega),ih (k+1) (by omega)]
  cases List.find? (fun j=> !tB es (s:Int) (b:Int) (a:Int) (toOf es j)) (stepsL es (t:Int) (b:Int))<;>rfl
structure SxC (st:Int) (s:Sx) (l:List (Int×Int)):Prop where
 es:s.es=l.map (uC st 3)
 nn:s.b=false->l=[]
 sz:s.b=true->s.sz=4
theorem SxC.app{st:Int}{s:Sx}{l:List (Int×Int)}(h:SxC st s l)(x:Int×Int)(hn:l.length<=10000000): ∃s',Sx.app s 4 [.st [.c (.int .i64 st), .c (.int .i64 3), .c (.int .i64 x.1), .c (.int .i64 x.2)]]=some s'/\SxC st s' (l++[x]):=by
 refine⟨⟨true,4,s.es++[uC st 3 x]⟩, ?_,by rw[h.es];simp,fun h=>(by cases h),fun _=>rfl⟩
 have hl:s.es.length=l.length:=by rw[h.es];simp
 unfold Sx.app
 rw[if_pos]
 ·simp[uC]
 ·refine⟨?_,rfl, ?_⟩
  ·cases hb:s.b with
   |false=>exact .inl rfl
   |true=>exact .inr (h.sz hb)
  ·show _<=_
   simp;omega
theorem w1t(he:es.length<=2000)(hok: ∀e∈es,eOK (N:Int) e=true)(hs:es.Pairwise lt3){z0 z1 z2 z3 x26 x27 x168 x169:Int}{x167:U}{s a b:Nat}(hsN:s<N)(ha:a<12)(hb:b<12){k x:Int}(hk:k∈stepsL es (s:Int) (b:Int)): ∀(d j:Nat) (fo:Sx) (lo:List (Int×Int)),j+d=(stepsL es x (a:Int)).length->SxC (s:Int) fo lo->lo.length+d<=10000000->
  ∃fo',SxC (s:Int) fo' (lo++(((stepsL es x (a:Int)).drop j).filter fun i=> !tB es (s:Int) (a:Int) (b:Int) (toOf es i)).map fun i=>(i,k))/\
  y70_7 M (openU N u1 b2 es) (a:Int) (b:Int) z0 z1 z2 z3 (s:Int) k x26 x27 x167 x168 x169 (rowU (stepsL es x (a:Int))) ((stepsL es x (a:Int)).length:Int) (j:Int) fo=y70_6 M (openU N u1 b2 es) (a:Int) (b:Int) z0 z1 z2 z3 (s:Int) x26 x27 x167 x168 (IntKind.wrap .i64 (x169+1)) fo':=by
 obtain⟨jk,ek,rfl,hk2,_,hkb⟩:=mem_steps.1 hk
 have hlen:=q0k (es:=es) x (a:Int)
 intro d
 induction d with
 |zero=>
  intro j fo lo hj hf _
  rw[Y0E,dL (by omega)]
  simp only[show¬((j:Int)<((stepsL es x (a:Int)).length:Int)) by omega,dF,bF,iF,List.filter_nil,List.map_nil,List.append_nil]
  exact⟨fo,hf,rfl⟩
 |succ d ih=>
  intro j fo lo hj hf hb'
  have hlt:j<(stepsL es x (a:Int)).length:=by omega
  obtain⟨ji,ei,hji,hi2,_,hia⟩:=mem_steps.1 (lM hlt)
  have h94:=Q1N (M:=M) (N:=N) (u1:=u1) (b2:=b2) he hok hs hk2 hi2 hia ha hsN
  rw[Y0E,q0c hlt,List.filter_cons]
  simp only[show((j:Int)<((stepsL es x (a:Int)).length:Int)) by omega,dY,iT,j0y (q0b hlt),oS,cell_c,asI_c,Q1H,q0a (show j<=1000000000 by omega)]
  rw[hji]
  simp only[h94,oS,toU_val,asB_c,j0a hi2,hkb]
  cases hT:tB es (s:Int) (a:Int) (b:Int) ei.t with
  |true=>simp only[Bool.not_true,bF,iF];exact ih (j+1) fo lo (by omega) hf (by omega)
  |false=>
   obtain⟨fo',g1,g2⟩:=hf.app ((ji:Int),(jk:Int)) (by omega)
   obtain⟨fo2,g3,g4⟩:=ih (j+1) fo' _ (by omega) g2 (by simp;omega)
   simp only[Bool.not_false,iT,g1,oS,g4,List.map_cons]
   exact⟨fo2,by simpa using g3,rfl⟩
theorem q1k{f:Int->List Int}{P:Int->Int->Bool}{k:Int}{m:Nat}(h:(f k).length<=m):(pairs3 f P k).length<=m:=by
 unfold pairs3
 rw[List.length_map]
 exact nT (List.length_filter_le _ _) h
theorem w1u(he:es.length<=2000)(hok: ∀e∈es,eOK (N:Int) e=true)(hs:es.Pairwise lt3){z0 z1 z2 z3 x26 x27:Int}{s a b:Nat}(hsN:s<N)(ha:a<12)(hb:b<12): ∀(d j:Nat) (fo:Sx) (lo:List (Int×Int)),j+d=(stepsL es (s:Int) (b:Int)).length->SxC (s:Int) fo lo->lo.length+2000*d<=10000000->
  y70_6 M (openU N u1 b2 es) (a:Int) (b:Int) z0 z1 z2 z3 (s:Int) x26 x27 (rowU (stepsL es (s:Int) (b:Int))) ((stepsL es (s:Int) (b:Int)).length:Int) (j:Int) fo=
   match(lo++((stepsL es (s:Int) (b:Int)).drop j).flatMap (pairs3 (fun k=>stepsL es (toOf es k) (a:Int)) fun k i=>tB es (s:Int) (a:Int) (b:Int) (toOf es i))).foldl minStep none with
   |some x=>tupC (s:Int) 3 x.1 x.2
   |none=>y70_1 M (openU N u1 b2 es) (a:Int) (b:Int) z0 z1 z2 z3 x26 (IntKind.wrap .i64 (x27+1)):=by
 obtain⟨v,v0,v1,v2,v3,v4,v5⟩:=q0f N u1 b2 es
 have hlen:=q0k (es:=es) (s:Int) (b:Int)
 intro d
 induction d with
 |zero=>
  intro j fo lo hj hf hl
  have hfl:fo.es.length=lo.length:=by rw[hf.es];simp
  rw[Y0D,dL (by omega)]
  simp only[show¬((j:Int)<((stepsL es (s:Int) (b:Int)).length:Int)) by omega,dF,bF,iF,List.flatMap_nil,List.append_nil,hfl]
  by_cases h0:lo=[]
  ·subst h0
   simp
  ·obtain⟨r,r1,r2⟩:=Z1R (M:=M) (b:=fo.b) (s:=(s:Int)) (c:=3) (l:=lo) (by omega) h0
   have hz:fo.fz= .sl fo.b (lo.map (uC (s:Int) 3)):=by unfold Sx.fz;rw[hf.es]
   have hpos:0<lo.length:=List.length_pos_iff.2 h0
   have hex: ∃f,U.exact (uC (s:Int) 3 r) ks0=some f/\f 0=uI s/\f 1=uI 3/\f 2=uI r.1/\f 3=uI r.2:=⟨_,rfl,rfl,rfl,rfl,rfl⟩
   obtain⟨f,f0,f1,f2,f3,f4⟩:=hex
   simp only[show(0:Int)<(lo.length:Int) by omega,dY,iT,hz,r1,oS,toU_val,f0,f1,f2,f3,f4,i_uI,r2]
   rfl
 |succ d ih=>
  intro j fo lo hj hf hl
  have hlt:j<(stepsL es (s:Int) (b:Int)).length:=by omega
  obtain⟨jk,ek,hjk,hk2,_⟩:=mem_steps.1 (lM hlt)
  obtain⟨t,ht,htN⟩:=j1I hok hk2
  obtain⟨w,w1,w2⟩:=z0O hok htN ha
  have hlen2:=q0k (es:=es) (t:Int) (a:Int)
  obtain⟨fo',g1,g2⟩:=w1t (M:=M) (N:=N) (u1:=u1) (b2:=b2) he hok hs (z0:=z0) (z1:=z1) (z2:=z2) (z3:=z3) (x26:=x26) (x27:=x27) (x167:=rowU (stepsL es (s:Int) (b:Int))) (x168:=((stepsL es (s:Int) (b:Int)).length:Int)) (x169:=(j:Int)) (s:=s) hsN ha hb (x:=(t:Int)) (lM hlt) _ 0 fo lo (Nat.zero_add _) hf (by omega)
  have hp:(lo++(((stepsL es (t:Int) (a:Int)).drop 0).filter fun i=> !tB es (s:Int) (a:Int) (b:Int) (toOf es i)).map fun i=>(i,(stepsL es (s:Int) (b:Int))[j]))=lo++pairs3 (fun k=>stepsL es (toOf es k) (a:Int)) (fun k i=>tB es (s:Int) (a:Int) (b:Int) (toOf es i)) (stepsL es (s:Int) (b:Int))[j]:=by
   simp only[pairs3,hjk,j0a hk2,ht,List.drop_zero]
  rw[hp]at g1
  have hpl:=q1k (f:=fun k=>stepsL es (toOf es k) (a:Int)) (P:=fun k i=>tB es (s:Int) (a:Int) (b:Int) (toOf es i)) (k:=(stepsL es (s:Int) (b:Int))[j]) (m:=2000) (by rw[hjk,j0a hk2,ht];omega)
  have ih':=ih (j+1) fo' _ (by omega) g1 (by rw[List.length_append];omega)
  rw[show((0:Nat):Int)=0 from rfl]at g2
  rw[Y0D,q0c hlt,List.flatMap_cons,<-List.append_assoc]
  rw[q0a (show j<=1000000000 by omega)]at g2
  simp only[show((j:Int)<((stepsL es (s:Int) (b:Int)).length:Int)) by omega,dY,iT,j0y (q0b hlt),oS,cell_c,asI_c,v0,v5,v3]
  rw[<-ih',<-g2,hjk]
  simp only[q0l hk2,oS,cell_uE1,asI_c,j0a hk2,ht,w1,w2,len_rowU,show(0:Int)<=(a:Int)/\(a:Int)<((12:Nat):Int)from⟨by omega,by omega⟩,and_self,iT]
theorem w1v(hN:N<=60)(he:es.length<=2000)(hok: ∀e∈es,eOK (N:Int) e=true)(hs:es.Pairwise lt3){z0 z1 z2 z3:Int}{a b:Nat}(ha:a<12)(hb:b<12): ∀(d s:Nat),s+d=N->
  y70_1 M (openU N u1 b2 es) (a:Int) (b:Int) z0 z1 z2 z3 (N:Int) (s:Int)=resC (clashL es (a:Int) (b:Int) d s):=by
 obtain⟨v,v0,v1,v2,v3,v4,v5⟩:=q0f N u1 b2 es
 intro d
 induction d with
 |zero=>
  intro s hs'
  rw[Y0y]
  simp only[show¬((s:Int)<(N:Int)) by omega,dF,bF,iF,clashL,resC]
  rfl
 |succ d ih=>
  intro s hsd
  have hsN:s<N:=by omega
  obtain⟨w,w1,w2⟩:=z0O hok hsN ha
  obtain⟨w',w3,w4⟩:=z0O hok hsN hb
  have hw:w'=w:=Option.some.inj (w3.symm.trans w1)
  subst hw
  have hlb:=q0k (es:=es) (s:Int) (b:Int)
  have h2:=w1q (M:=M) (N:=N) (u1:=u1) (b2:=b2) he hok hs (z0:=z0) (z1:=z1) (z2:=z2) (z3:=z3) (x26:=(N:Int)) (x27:=(s:Int)) hsN ha hb _ 0 (Nat.zero_add _)
  have h4:=w1s (M:=M) (N:=N) (u1:=u1) (b2:=b2) he hok hs (z0:=z0) (z1:=z1) (z2:=z2) (z3:=z3) (x26:=(N:Int)) (x27:=(s:Int)) hsN ha hb _ 0 (Nat.zero_add _)
  have h6:=w1u (M:=M) (N:=N) (u1:=u1) (b2:=b2) he hok hs (z0:=z0) (z1:=z1) (z2:=z2) (z3:=z3) (x26:=(N:Int)) (x27:=(s:Int)) hsN ha hb _ 0 ⟨false,0,[]⟩ [] (Nat.zero_add _) ⟨rfl,fun _=>rfl,fun h=>(by cases h)⟩ (by simp;omega)
  rw[show((0:Nat):Int)=0 from rfl,List.drop_zero]at h2 h4 h6
  rw[Y0y]
  simp only[show((s:Int)<(N:Int)) by omega,dY,iT,v0,v5,w1,w2,w3,w4,oS,len_rowU,show(0:Int)<=(a:Int)/\(a:Int)<((12:Nat):Int)from⟨by omega,by omega⟩,show(0:Int)<=(b:Int)/\(b:Int)<((12:Nat):Int)from⟨by omega,by omega⟩,and_self,q0a (show s<=1000000000 by omega),ih (s+1) (by omega)]at h2 h4 h6⊢
  rw[h2,h4,h6]
  rw[List.nil_append]
  simp only[clashL,clashAt]
  cases hA:stepsL es (s:Int) (a:Int)with
  |nil=>simp
  |cons x la=>
   cases hB:stepsL es (s:Int) (b:Int)with
   |nil=>simp[show¬((la.length:Int)+1=0) by omega]
   |cons y lb=>
    have e1:(((x::la).length:Int)=0)=False:=by simp;omega
    have e2:(((y::lb).length:Int)=0)=False:=by simp;omega
    simp only[e1,e2,dF,iT,bF,iF,List.isEmpty_cons,Bool.or_false,oS]
    cases find2 (fun _=>y::lb) (fun i k=>mB es (toOf es i) (b:Int) (toOf es k) (a:Int)) (x::la)with
    |some p=>rfl
    |none=>
     cases find2 (fun i=>stepsL es (toOf es i) (b:Int)) (fun i k=>tB es (s:Int) (b:Int) (a:Int) (toOf es k)) (x::la)with
     |some p=>rfl
     |none=>
      cases((y::lb).flatMap (pairs3 (fun k=>stepsL es (toOf es k) (a:Int)) fun k i=>tB es (s:Int) (a:Int) (b:Int) (toOf es i))).foldl minStep none<;>rfl
theorem K1z(hN:N<=60)(he:es.length<=2000)(hok: ∀e∈es,eOK (N:Int) e=true)(hs:es.Pairwise lt3){a b:Nat}(ha:a<12)(hb:b<12):
  y70 M (openU N u1 b2 es) (a:Int) (b:Int)=resC (clashL es (a:Int) (b:Int) N 0):=by
 obtain⟨v,v0,v1,v2,v3,v4,v5⟩:=q0f N u1 b2 es
 rw[W1B]
 have:=w1v (M:=M) (u1:=u1) (b2:=b2) hN he hok hs (z0:=0) (z1:=0) (z2:=0) (z3:=0) ha hb N 0 (by omega)
 rw[show((0:Nat):Int)=0 from rfl]at this
 simp only[v0,v1,oS,asI_uI,this]
end
end Go.Proofs.Ythjjbkiejkhjfaa.R
