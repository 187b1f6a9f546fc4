/- - -/
import Derived.Test.YtglkhoamnmiolaaKm
set_option linter.all false
namespace Go.Proofs.Ytglkhoamnmiolaa.R
open Go Go.Proofs.Ytglkhoamnmiolaa.Vm
structure IsG {α:Type} (g:α->U) (sz:Nat) (s:Sx) (l:List α):Prop where
 es:s.es=l.map g
 z:s.b=false\/s.sz=sz
 b:l≠[]->s.b=true
theorem IsG.nil{α:Type}{g:α->U}{sz:Nat}:IsG g sz ⟨false,0,[]⟩ []:=⟨rfl, .inl rfl,fun h=>absurd rfl h⟩
theorem IsG.app{α:Type}{g:α->U}{sz:Nat}{s:Sx}{l:List α}(h:IsG g sz s l)(hg: ∀x,(g x).size=sz)(x:α)(hn:l.length<=1000000000): ∃s',Sx.app s sz [g x]=some s'/\IsG g sz s' (l++[x]):=by
 have hr:roomy (s.es.length+[g x].length):=by rw[h.es];show _<=_;simp;omega
 refine⟨⟨true,sz,s.es++[g x]⟩, ?_,⟨by simp[h.es], .inr rfl,fun _=>rfl⟩⟩
 unfold Sx.app
 rw[if_pos ⟨h.z,by simp[hg],hr⟩,if_neg (by simp)]
def bothL(b:Int)(l1 l2:List Int):List Int:=l1.flatMap fun s=>l2.map fun t=>s*b+t
def prE(b:Int)(x y:E4):E4:=⟨x.f*b+y.f,x.t*b+y.t,bitI .or .i64 x.n y.n,bitI .or .i64 x.v y.v⟩
def canR(e:E4):Bool:=decide (bitI .and .i64 e.n e.v=0)
def bothE(b:Int)(es1 es2:List E4):List E4:=es1.flatMap fun x=>(es2.map (prE b x)).filter canR
def bothA(b:Nat)(l:List Int):List Int:=l.flatMap fun s=>(List.range b).map fun(t:Nat)=>s*(b:Int)+(t:Int)
def bothB(a b:Nat)(l:List Int):List Int:=(List.range a).flatMap fun(s:Nat)=>l.map fun t=>(s:Int)*(b:Int)+t
def uX(x:Bool×List Int):U:=uIs x.1 x.2
section
variable{M:YM}{a b:Nat}{b1 b2 b3 b4 b5 b6:Bool}{l l':List Int}{es es':List E4}{xs xs':List (Bool×List Int)}{x40 o0:Int}{t1 t2 t3 o1 o2 o3:Sx}
theorem J0e{s t b:Nat}{u1 u2 u3:U}(hs:s<=300)(hb:b<=300)(ht:t<=300):ycall M 68 ([]++[.c (.int .i64 (s:Int)), .c (.int .i64 (t:Int))]++[.ref (.st [.c (.int .i64 (b:Int)),u1,u2,u3]) 0])=some (.val (uI ((s:Int)*(b:Int)+(t:Int)))):=by
 show y68 M (s:Int) (t:Int) (.ref (.st [.c (.int .i64 (b:Int)),u1,u2,u3]) 0)=_
 have hm:s*b<=300*300:=Nat.mul_le_mul hs hb
 have e1:IntKind.wrap .i64 ((s:Int)*(b:Int))=(s:Int)*(b:Int):=by rw[<-Int.natCast_mul,q0h (by omega) (by omega)]
 have e2:IntKind.wrap .i64 ((s:Int)*(b:Int)+(t:Int))=(s:Int)*(b:Int)+(t:Int):=by rw[<-Int.natCast_mul,q0h (by omega) (by omega)]
 rw[w1s]
 simp only[U.asR,oS,U.cell,U.cells,List.getElem?_cons_zero,asI_c,e1,e2]
abbrev bU(b:Nat)(b4 b5 b6:Bool)(l':List Int)(es':List E4)(xs':List (Bool×List Int)):U:= .ref (.st [.c (.int .i64 (b:Int)),uIs b4 l',uEs b5 es',uLs b6 xs']) 0
abbrev pU(b:Nat)(b4 b5 b6:Bool)(l':List Int)(es':List E4)(xs':List (Bool×List Int)):U:= .fn 68 [] [bU b b4 b5 b6 l' es' xs']
def rng(a:Nat)(l:List Int):Prop:=l.length<=300/\ ∀s∈l,∃n:Nat,s=n/\n<a
variable(ha:a<=300)(hb:b<=300)
include hb
theorem q1Q(hl':rng b l'){s:Nat}(hs:s<=300){i:Nat}(hi:i<=1000000){x55:U}{x56:Int}{u1 u2 u3:U}:
  ∀(d k:Nat) (out:List Int) (o1:Sx),k+d=l'.length->out.length+d<=100000000->IsG uI 1 o1 out->
  ∃s1,y32_2 M (a:Int) u1 u2 u3 (bU b b4 b5 b6 l' es' xs') x40 (pU b b4 b5 b6 l' es' xs') o0 (s:Int) x55 x56 (i:Int) (uIs b4 l') (l'.length:Int) (k:Int) t1 t2 t3 o1 o2 o3=
   y32_1 M (a:Int) u1 u2 u3 (bU b b4 b5 b6 l' es' xs') x40 (pU b b4 b5 b6 l' es' xs') o0 x55 x56 ((i+1:Nat):Int) t1 t2 t3 s1 o2 o3/\IsG uI 1 s1 (out++(l'.drop k).map fun t=>(s:Int)*(b:Int)+t):=by
 intro d
 induction d with
 |zero=>
  intro k out o1 hk hn h
  refine⟨o1, ?_,by rw[dL (by omega)];simpa using h⟩
  rw[Z0W]
  simp only[show¬((k:Int)<((l'.length:Nat):Int)) by omega,dF,bF,iF,q0b (show i<=1000000000 by omega)]
 |succ d ih=>
  intro k out o1 hk hn h
  have hlt:k<l'.length:=by omega
  obtain⟨t,ht,htb⟩:=hl'.2 l'[k] (lM hlt)
  have hget:l'[k]? =some (t:Int):=by rw[q0a hlt,ht]
  obtain⟨s1,q1,q2⟩:=h.app (fun _=>rfl) ((s:Int)*(b:Int)+(t:Int)) (by omega)
  obtain⟨s2,z1,z2⟩:=ih (k+1) _ s1 (by omega) (by simp;omega) q2
  have h300:=hl'.1
  refine⟨s2, ?_, ?_⟩
  ·rw[Z0W]
   simp only[show((k:Int)<((l'.length:Nat):Int)) by omega,dY,iT,j0e hget,oS,cell_c,asI_c,U.asF,J0e (M:=M) hs hb (show t<=300 by omega),toU_val,q1,q0b (show k<=1000000000 by omega),z1]
  ·rw[List.drop_eq_getElem_cons hlt,List.map_cons,ht]
   rw[List.append_assoc]at z2
   exact z2
theorem q1R(ha:a<=300)(hl:rng a l)(hl':rng b l'){u2 u3:U}(hu2:u2=uEs b2 es):
  ∀(d k:Nat) (out:List Int) (o1:Sx),k+d=l.length->out.length+d*300<=100000000->IsG uI 1 o1 out->
  ∃s1,y32_1 M (a:Int) (uIs b1 l) u2 u3 (bU b b4 b5 b6 l' es' xs') x40 (pU b b4 b5 b6 l' es' xs') o0 (uIs b1 l) (l.length:Int) (k:Int) t1 t2 t3 o1 o2 o3=
   y32_3 M (a:Int) (uIs b1 l) u2 u3 (bU b b4 b5 b6 l' es' xs') x40 (pU b b4 b5 b6 l' es' xs') o0 u2 (es.length:Int) 0 t1 t2 t3 s1 o2 o3/\IsG uI 1 s1 (out++bothL (b:Int) (l.drop k) l'):=by
 have h300:=hl.1;have h300':=hl'.1
 intro d
 induction d with
 |zero=>
  intro k out o1 hk hn h
  refine⟨o1, ?_,by rw[dL (by omega)];simpa[bothL]using h⟩
  rw[Z0V,hu2]
  simp only[show¬((k:Int)<((l.length:Nat):Int)) by omega,dF,bF,iF,len_uEs,oS]
 |succ d ih=>
  intro k out o1 hk hn h
  have hlt:k<l.length:=by omega
  obtain⟨s,hs,hsa⟩:=hl.2 l[k] (lM hlt)
  have hget:l[k]? =some (s:Int):=by rw[q0a hlt,hs]
  obtain⟨s1,q1,q2⟩:=q1Q (M:=M) (a:=a) hb hl' (show s<=300 by omega) (i:=k) (by omega) (b4:=b4) (b5:=b5) (b6:=b6) (es':=es') (xs':=xs') (x40:=x40) (o0:=o0) (t1:=t1) (t2:=t2) (t3:=t3) (o2:=o2) (o3:=o3) (x55:=uIs b1 l) (x56:=(l.length:Int)) (u1:=uIs b1 l) (u2:=u2) (u3:=u3) l'.length 0 out o1 (by omega) (by omega) h
  rw[List.drop_zero]at q2
  obtain⟨s2,z1,z2⟩:=ih (k+1) _ s1 (by omega) (by simp;omega) q2
  refine⟨s2, ?_, ?_⟩
  ·rw[Z0V]
   rw[show((0:Nat):Int)=0 from rfl]at q1
   simp only[show((k:Int)<((l.length:Nat):Int)) by omega,dY,iT,j0e hget,oS,cell_c,asI_c,U.asR,U.cell,U.cells,List.getElem?_cons_zero,Nat.zero_add,List.getElem?_cons_succ,len_uIs,q1,z1]
  ·rw[List.drop_eq_getElem_cons hlt,bothL,List.flatMap_cons,hs,<-List.append_assoc]
   exact z2
omit hb in
theorem k1V(f t n v:Int):y69 M f t n v=some (.val (.c (.bool (canR ⟨f,t,n,v⟩)))):=by rw[w1t];rfl
def okE(a:Nat)(e:E4):Prop:=(∃f:Nat,e.f=f/\f<a)/\ ∃t:Nat,e.t=t/\t<a
theorem q1S(he':es'.length<=6000)(hok': ∀e∈es',okE b e){x:E4}(hx:okE 301 x){i:Nat}(hi:i<=1000000){x80:U}{x81:Int}{u1 u2 u3:U}:
  ∀(d k:Nat) (out:List E4) (o2:Sx),k+d=es'.length->out.length+d<=100000000->IsG uE 4 o2 out->
  ∃s1,y32_4 M (a:Int) u1 u2 u3 (bU b b4 b5 b6 l' es' xs') x40 (pU b b4 b5 b6 l' es' xs') o0 x.f x.t x.n x.v x80 x81 (i:Int) (uEs b5 es') (es'.length:Int) (k:Int) t1 t2 t3 o1 o2 o3=
   y32_3 M (a:Int) u1 u2 u3 (bU b b4 b5 b6 l' es' xs') x40 (pU b b4 b5 b6 l' es' xs') o0 x80 x81 ((i+1:Nat):Int) t1 t2 t3 o1 s1 o3/\IsG uE 4 s1 (out++((es'.drop k).map (prE (b:Int) x)).filter canR):=by
 obtain⟨⟨xf,hxf,hxf1⟩,xt,hxt,hxt1⟩:=hx
 intro d
 induction d with
 |zero=>
  intro k out o2 hk hn h
  refine⟨o2, ?_,by rw[dL (by omega)];simpa using h⟩
  rw[Z0Y]
  simp only[show¬((k:Int)<((es'.length:Nat):Int)) by omega,dF,bF,iF,q0b (show i<=1000000000 by omega)]
 |succ d ih=>
  intro k out o2 hk hn h
  have hlt:k<es'.length:=by omega
  have hget:es'[k]? =some es'[k]:=q0a hlt
  obtain⟨⟨f,hf,hfb⟩,t,ht,htb⟩:=hok' es'[k] (lM hlt)
  obtain⟨g,g0,g1,g2,g3,g4⟩:=k0h es'[k]
  have c1:ycall M 68 ([]++[.c (.int .i64 x.f), .c (.int .i64 es'[k].f)]++[bU b b4 b5 b6 l' es' xs'])=some (.val (uI (x.f*(b:Int)+es'[k].f))):=by rw[hxf,hf];exact J0e (by omega) hb (by omega)
  have c2:ycall M 68 ([]++[.c (.int .i64 x.t), .c (.int .i64 es'[k].t)]++[bU b b4 b5 b6 l' es' xs'])=some (.val (uI (x.t*(b:Int)+es'[k].t))):=by rw[hxt,ht];exact J0e (by omega) hb (by omega)
  rw[Z0Y,List.drop_eq_getElem_cons hlt,List.map_cons]
  simp only[show((k:Int)<((es'.length:Nat):Int)) by omega,dY,iT,Q0W hget,oS,g0,g1,g2,g3,g4,i_uI,U.asF,c1,c2,toU_val,asI_c,k1V,asB_c]
  show∃s1,(if canR (prE (b:Int) x es'[k])=true then _ else _)=_/\_
  cases hc:canR (prE (b:Int) x es'[k])with
  |true=>
   obtain⟨s1,q1,q2⟩:=h.app (fun _=>rfl) (prE (b:Int) x es'[k]) (by omega)
   obtain⟨s2,z1,z2⟩:=ih (k+1) _ s1 (by omega) (by simp;omega) q2
   refine⟨s2, ?_, ?_⟩
   ·rw[if_pos rfl]
    have q1':Sx.app o2 4 [.st [.c (.int .i64 (x.f*(b:Int)+es'[k].f)), .c (.int .i64 (x.t*(b:Int)+es'[k].t)), .c (.int .i64 (bitI .or .i64 x.n es'[k].n)), .c (.int .i64 (bitI .or .i64 x.v es'[k].v))]]=some s1:=q1
    simp only[q1',oS,K0a,q0b (show k<=1000000000 by omega),z1]
   ·rw[List.filter_cons,if_pos hc]
    rw[List.append_assoc]at z2
    exact z2
  |false=>
   obtain⟨s2,z1,z2⟩:=ih (k+1) _ o2 (by omega) (by omega) h
   refine⟨s2, ?_, ?_⟩
   ·rw[if_neg (by simp)]
    simp only[K0a,q0b (show k<=1000000000 by omega),z1]
   ·rw[List.filter_cons,if_neg (by simp[hc])]
    exact z2
theorem q1T(ha:a<=300)(he:es.length<=6000)(hok: ∀e∈es,okE a e)(he':es'.length<=6000)(hok': ∀e∈es',okE b e){u1 u3:U}(hu3:u3=uLs b3 xs):
  ∀(d k:Nat) (out:List E4) (o2:Sx),k+d=es.length->out.length+d*6000<=100000000->IsG uE 4 o2 out->
  ∃s1,y32_3 M (a:Int) u1 (uEs b2 es) u3 (bU b b4 b5 b6 l' es' xs') x40 (pU b b4 b5 b6 l' es' xs') o0 (uEs b2 es) (es.length:Int) (k:Int) t1 t2 t3 o1 o2 o3=
   y32_6 M (a:Int) u1 (uEs b2 es) u3 (bU b b4 b5 b6 l' es' xs') x40 (pU b b4 b5 b6 l' es' xs') o0 u3 (xs.length:Int) 0 t1 t2 t3 o1 s1 o3/\IsG uE 4 s1 (out++bothE (b:Int) (es.drop k) es'):=by
 intro d
 induction d with
 |zero=>
  intro k out o2 hk hn h
  refine⟨o2, ?_,by rw[dL (by omega)];simpa[bothE]using h⟩
  rw[Z0X,hu3]
  simp only[show¬((k:Int)<((es.length:Nat):Int)) by omega,dF,bF,iF,len_uLs,oS]
 |succ d ih=>
  intro k out o2 hk hn h
  have hlt:k<es.length:=by omega
  have hget:es[k]? =some es[k]:=q0a hlt
  obtain⟨⟨f,hf,hfb⟩,t,ht,htb⟩:=hok es[k] (lM hlt)
  obtain⟨g,g0,g1,g2,g3,g4⟩:=k0h es[k]
  obtain⟨s1,q1,q2⟩:=q1S (M:=M) (a:=a) hb he' hok' (x:=es[k]) ⟨⟨f,hf,by omega⟩,t,ht,by omega⟩ (i:=k) (by omega) (b4:=b4) (b5:=b5) (b6:=b6) (l':=l') (xs':=xs') (x40:=x40) (o0:=o0) (t1:=t1) (t2:=t2) (t3:=t3) (o1:=o1) (o3:=o3) (x80:=uEs b2 es) (x81:=(es.length:Int)) (u1:=u1) (u2:=uEs b2 es) (u3:=u3) es'.length 0 out o2 (by omega) (by omega) h
  rw[List.drop_zero]at q2
  obtain⟨s2,z1,z2⟩:=ih (k+1) _ s1 (by omega) (by
   have:=List.length_filter_le canR (es'.map (prE (b:Int) es[k]))
   rw[List.length_map]at this
   rw[List.length_append];omega) q2
  refine⟨s2, ?_, ?_⟩
  ·rw[Z0X]
   rw[show((0:Nat):Int)=0 from rfl]at q1
   simp only[show((k:Int)<((es.length:Nat):Int)) by omega,dY,iT,Q0W hget,oS,g0,g1,g2,g3,g4,i_uI,U.asR,U.cell,U.cells,List.getElem?_cons_zero,Nat.zero_add,List.getElem?_cons_succ,len_uEs,q1,z1]
  ·rw[List.drop_eq_getElem_cons hlt,bothE,List.flatMap_cons,<-List.append_assoc]
   exact z2
theorem q1U{s:Nat}(hs:s<=300){i:Nat}(hi:i<=1000000){x127 x133:U}{x128 x129 x134:Int}{u1 u2 u3:U}:
  ∀(d k:Nat) (out:List Int) (v:Sx),k+d=b->out.length+d<=100000000->IsG uI 1 v out->
  ∃s1,y32_8 M (a:Int) u1 u2 u3 (bU b b4 b5 b6 l' es' xs') x40 (pU b b4 b5 b6 l' es' xs') o0 (s:Int) x127 x128 x129 x133 x134 (i:Int) (b:Int) (k:Int) t1 t2 t3 o1 o2 o3 v=
   y32_7 M (a:Int) u1 u2 u3 (bU b b4 b5 b6 l' es' xs') x40 (pU b b4 b5 b6 l' es' xs') o0 x127 x128 x129 x133 x134 ((i+1:Nat):Int) t1 t2 t3 o1 o2 o3 s1/\IsG uI 1 s1 (out++(List.range' k d).map fun(t:Nat)=>(s:Int)*(b:Int)+(t:Int)):=by
 intro d
 induction d with
 |zero=>
  intro k out v hk hn h
  refine⟨v, ?_,by simpa using h⟩
  rw[K0d]
  simp only[show¬((k:Int)<(b:Int)) by omega,dF,bF,iF,q0b (show i<=1000000000 by omega)]
 |succ d ih=>
  intro k out v hk hn h
  obtain⟨s1,q1,q2⟩:=h.app (fun _=>rfl) ((s:Int)*(b:Int)+(k:Int)) (by omega)
  obtain⟨s2,z1,z2⟩:=ih (k+1) _ s1 (by omega) (by simp;omega) q2
  refine⟨s2, ?_, ?_⟩
  ·rw[K0d]
   simp only[show((k:Int)<(b:Int)) by omega,dY,iT,oS,asI_c,U.asF,J0e (M:=M) hs hb (show k<=300 by omega),toU_val,q1,q0b (show k<=1000000000 by omega),z1]
  ·rw[List.range'_succ,List.map_cons]
   rw[List.append_assoc]at z2
   exact z2
theorem q1V{x:List Int}{bx:Bool}(hx:rng 301 x){i:Nat}(hi:i<=1000000){x127:U}{x128:Int}{u1 u2 u3:U}{ys:List (Bool×List Int)}(hys:ys.length<=1000000)(hg:IsG uX 1 o3 ys):
  ∀(d k:Nat) (out:List Int) (v:Sx),k+d=x.length->out.length+d*300<=100000000->IsG uI 1 v out->
  ∃s1 fl,y32_7 M (a:Int) u1 u2 u3 (bU b b4 b5 b6 l' es' xs') x40 (pU b b4 b5 b6 l' es' xs') o0 x127 x128 (i:Int) (uIs bx x) (x.length:Int) (k:Int) t1 t2 t3 o1 o2 o3 v=
   y32_6 M (a:Int) u1 u2 u3 (bU b b4 b5 b6 l' es' xs') x40 (pU b b4 b5 b6 l' es' xs') o0 x127 x128 ((i+1:Nat):Int) t1 t2 t3 o1 o2 s1/\IsG uX 1 s1 (ys++[(fl,out++bothA b (x.drop k))]):=by
 intro d
 induction d with
 |zero=>
  intro k out v hk hn h
  have hv:Sx.fz v=uX (v.b,out):=by unfold Sx.fz uX uIs;rw[h.es]
  obtain⟨s1,q1,q2⟩:=hg.app (fun _=>rfl) (v.b,out) (by omega)
  refine⟨s1,v.b, ?_,by rw[dL (by omega)];simpa[bothA]using q2⟩
  rw[K0b]
  simp only[show¬((k:Int)<((x.length:Nat):Int)) by omega,dF,bF,iF,hv,q1,oS,q0b (show i<=1000000000 by omega)]
 |succ d ih=>
  intro k out v hk hn h
  have hlt:k<x.length:=by omega
  obtain⟨s,hs,hsa⟩:=hx.2 x[k] (lM hlt)
  have hget:x[k]? =some (s:Int):=by rw[q0a hlt,hs]
  have:=hx.1
  obtain⟨v1,q1,q2⟩:=q1U (M:=M) (a:=a) hb (s:=s) (by omega) (i:=k) (by omega) (b4:=b4) (b5:=b5) (b6:=b6) (l':=l') (es':=es') (xs':=xs') (x40:=x40) (o0:=o0) (t1:=t1) (t2:=t2) (t3:=t3) (o1:=o1) (o2:=o2) (o3:=o3) (x127:=x127) (x133:=uIs bx x) (x128:=x128) (x129:=(i:Int)) (x134:=(x.length:Int)) (u1:=u1) (u2:=u2) (u3:=u3) b 0 out v (by omega) (by omega) h
  obtain⟨s2,fl,z1,z2⟩:=ih (k+1) _ v1 (by omega) (by simp;omega) q2
  refine⟨s2,fl, ?_, ?_⟩
  ·rw[K0b]
   rw[show((0:Nat):Int)=0 from rfl]at q1
   simp only[show((k:Int)<((x.length:Nat):Int)) by omega,dY,iT,j0e hget,oS,cell_c,asI_c,U.asR,U.cell,U.cells,List.getElem?_cons_zero,q1,z1]
  ·rw[List.drop_eq_getElem_cons hlt,bothA,List.flatMap_cons,hs,List.range_eq_range',<-List.append_assoc]
   rw[bothA,List.range_eq_range']at z2
   exact z2
theorem q1W(hxs:xs.length<=8)(hx: ∀x∈xs,rng 301 x.2){u1 u2 u3:U}:
  ∀(d k:Nat) (ys:List (Bool×List Int)) (o3:Sx),k+d=xs.length->ys.length+d<=1000000->IsG uX 1 o3 ys->
  ∃s1 zs,y32_6 M (a:Int) u1 u2 u3 (bU b b4 b5 b6 l' es' xs') x40 (pU b b4 b5 b6 l' es' xs') o0 (uLs b3 xs) (xs.length:Int) (k:Int) t1 t2 t3 o1 o2 o3=
   y32_9 M (a:Int) u1 u2 u3 x40 (pU b b4 b5 b6 l' es' xs') o0 (uLs b6 xs') (xs'.length:Int) 0 t1 t2 t3 o1 o2 s1/\IsG uX 1 s1 (ys++zs)/\zs.map (·.2)=(xs.drop k).map fun x=>bothA b x.2:=by
 intro d
 induction d with
 |zero=>
  intro k ys o3 hk hn h
  refine⟨o3,[], ?_,by simpa using h,by rw[dL (by omega)];rfl⟩
  rw[Z0Z]
  simp only[show¬((k:Int)<((xs.length:Nat):Int)) by omega,dF,bF,iF,U.asR,oS,U.cell,U.cells,Nat.zero_add,List.getElem?_cons_succ,List.getElem?_cons_zero,len_uLs]
 |succ d ih=>
  intro k ys o3 hk hn h
  have hlt:k<xs.length:=by omega
  have hget:xs[k]? =some xs[k]:=q0a hlt
  have hr:=hx xs[k] (lM hlt)
  have:=hr.1
  obtain⟨s1,fl,q1,q2⟩:=q1V (M:=M) (a:=a) hb hr (bx:=xs[k].1) (i:=k) (by omega) (ys:=ys) (by omega) h (b4:=b4) (b5:=b5) (b6:=b6) (l':=l') (es':=es') (xs':=xs') (x40:=x40) (o0:=o0) (t1:=t1) (t2:=t2) (t3:=t3) (o1:=o1) (o2:=o2) (x127:=uLs b3 xs) (x128:=(xs.length:Int)) (u1:=u1) (u2:=u2) (u3:=u3) xs[k].2.length 0 [] ⟨false,0,[]⟩ (by omega) (by simp;omega) .nil
  rw[List.drop_zero,List.nil_append]at q2
  obtain⟨s2,zs,z1,z2,z3⟩:=ih (k+1) _ s1 (by omega) (by simp;omega) q2
  refine⟨s2,(fl,bothA b xs[k].2)::zs, ?_,by rw[List.append_assoc]at z2;exact z2,by rw[List.drop_eq_getElem_cons hlt,List.map_cons,List.map_cons,z3]⟩
  rw[Z0Z]
  rw[show((0:Nat):Int)=0 from rfl]at q1
  simp only[show((k:Int)<((xs.length:Nat):Int)) by omega,dY,iT,j0U hget,oS,cell_uIs,len_uIs,q1,z1]
theorem X0u{s:Nat}(hs:s<=300){x:List Int}{bx:Bool}(hx:rng 301 x){i:Nat}(hi:i<=1000000){x161:U}{x162 x163:Int}{u1 u2 u3:U}:
  ∀(d k:Nat) (out:List Int) (v:Sx),k+d=x.length->out.length+d<=100000000->IsG uI 1 v out->
  ∃s1,y32_11 M (a:Int) u1 u2 u3 x40 (pU b b4 b5 b6 l' es' xs') o0 (uIs bx x) (s:Int) x161 x162 x163 (a:Int) (i:Int) (uIs bx x) (x.length:Int) (k:Int) t1 t2 t3 o1 o2 o3 v=
   y32_10 M (a:Int) u1 u2 u3 x40 (pU b b4 b5 b6 l' es' xs') o0 (uIs bx x) x161 x162 x163 (a:Int) ((i+1:Nat):Int) t1 t2 t3 o1 o2 o3 s1/\IsG uI 1 s1 (out++(x.drop k).map fun t=>(s:Int)*(b:Int)+t):=by
 intro d
 induction d with
 |zero=>
  intro k out v hk hn h
  refine⟨v, ?_,by rw[dL (by omega)];simpa using h⟩
  rw[J0g]
  simp only[show¬((k:Int)<((x.length:Nat):Int)) by omega,dF,bF,iF,q0b (show i<=1000000000 by omega)]
 |succ d ih=>
  intro k out v hk hn h
  have hlt:k<x.length:=by omega
  obtain⟨t,ht,htb⟩:=hx.2 x[k] (lM hlt)
  have hget:x[k]? =some (t:Int):=by rw[q0a hlt,ht]
  have:=hx.1
  obtain⟨s1,q1,q2⟩:=h.app (fun _=>rfl) ((s:Int)*(b:Int)+(t:Int)) (by omega)
  obtain⟨s2,z1,z2⟩:=ih (k+1) _ s1 (by omega) (by simp;omega) q2
  refine⟨s2, ?_, ?_⟩
  ·rw[J0g]
   simp only[show((k:Int)<((x.length:Nat):Int)) by omega,dY,iT,j0e hget,oS,cell_c,asI_c,U.asF,J0e (M:=M) hs hb (show t<=300 by omega),toU_val,q1,q0b (show k<=1000000000 by omega),z1]
  ·rw[List.drop_eq_getElem_cons hlt,List.map_cons,ht]
   rw[List.append_assoc]at z2
   exact z2
theorem X0v(ha:a<=300){x:List Int}{bx:Bool}(hx:rng 301 x){i:Nat}(hi:i<=1000000){x161:U}{x162:Int}{u1 u2 u3:U}{ys:List (Bool×List Int)}(hys:ys.length<=1000000)(hg:IsG uX 1 o3 ys):
  ∀(d k:Nat) (out:List Int) (v:Sx),k+d=a->out.length+d*300<=100000000->IsG uI 1 v out->
  ∃s1 fl,y32_10 M (a:Int) u1 u2 u3 x40 (pU b b4 b5 b6 l' es' xs') o0 (uIs bx x) x161 x162 (i:Int) (a:Int) (k:Int) t1 t2 t3 o1 o2 o3 v=
   y32_9 M (a:Int) u1 u2 u3 x40 (pU b b4 b5 b6 l' es' xs') o0 x161 x162 ((i+1:Nat):Int) t1 t2 t3 o1 o2 s1/\IsG uX 1 s1 (ys++[(fl,out++(List.range' k d).flatMap fun(s:Nat)=>x.map fun t=>(s:Int)*(b:Int)+t)]):=by
 intro d
 induction d with
 |zero=>
  intro k out v hk hn h
  have hv:Sx.fz v=uX (v.b,out):=by unfold Sx.fz uX uIs;rw[h.es]
  obtain⟨s1,q1,q2⟩:=hg.app (fun _=>rfl) (v.b,out) (by omega)
  refine⟨s1,v.b, ?_,by simpa using q2⟩
  rw[J0f]
  simp only[show¬((k:Int)<(a:Int)) by omega,dF,bF,iF,hv,q1,oS,q0b (show i<=1000000000 by omega)]
 |succ d ih=>
  intro k out v hk hn h
  have:=hx.1
  obtain⟨v1,q1,q2⟩:=X0u (M:=M) (a:=a) hb (s:=k) (by omega) hx (bx:=bx) (i:=k) (by omega) (b4:=b4) (b5:=b5) (b6:=b6) (l':=l') (es':=es') (xs':=xs') (x40:=x40) (o0:=o0) (t1:=t1) (t2:=t2) (t3:=t3) (o1:=o1) (o2:=o2) (o3:=o3) (x161:=x161) (x162:=x162) (x163:=(i:Int)) (u1:=u1) (u2:=u2) (u3:=u3) x.length 0 out v (by omega) (by omega) h
  rw[List.drop_zero]at q2
  obtain⟨s2,fl,z1,z2⟩:=ih (k+1) _ v1 (by omega) (by simp;omega) q2
  refine⟨s2,fl, ?_, ?_⟩
  ·rw[J0f]
   rw[show((0:Nat):Int)=0 from rfl]at q1
   simp only[show((k:Int)<(a:Int)) by omega,dY,iT,oS,len_uIs,q1,z1]
  ·rw[List.range'_succ,List.flatMap_cons,<-List.append_assoc]
   exact z2
theorem q1X(ha:a<=300)(hxs:xs'.length<=8)(hx: ∀x∈xs',rng 301 x.2){u1 u2 u3:U}{l1:List Int}{e1:List E4}(ho1:IsG uI 1 o1 l1)(ho2:IsG uE 4 o2 e1):
  ∀(d k:Nat) (ys:List (Bool×List Int)) (o3:Sx),k+d=xs'.length->ys.length+d<=1000000->IsG uX 1 o3 ys->
  ∃f1 f2 f3 zs,y32_9 M (a:Int) u1 u2 u3 x40 (pU b b4 b5 b6 l' es' xs') o0 (uLs b6 xs') (xs'.length:Int) (k:Int) t1 t2 t3 o1 o2 o3=
   some (.tup (if 300<o0\/6000<e1.length\/8<(ys++zs).length then [zeroA,uI 2]else [.st [uI o0,uIs f1 l1,uEs f2 e1,uLs f3 (ys++zs)],uI 0]))/\zs.map (·.2)=(xs'.drop k).map fun x=>bothB a b x.2:=by
 intro d
 induction d with
 |zero=>
  intro k ys o3 hk hn h
  have v1:Sx.fz o1=uIs o1.b l1:=by unfold Sx.fz uIs;rw[ho1.es]
  have v2:Sx.fz o2=uEs o2.b e1:=by unfold Sx.fz uEs;rw[ho2.es]
  have v3:Sx.fz o3=uLs o3.b ys:=by unfold Sx.fz uLs;rw[h.es];rfl
  refine⟨o1.b,o2.b,o3.b,[], ?_,by rw[dL (by omega)];rfl⟩
  rw[K0c]
  simp only[show¬((k:Int)<((xs'.length:Nat):Int)) by omega,dF,bF,iF,v1,v2,v3,z1p,oS,asTup_tup,List.append_nil]
  split
  ·rfl
  ·rfl
 |succ d ih=>
  intro k ys o3 hk hn h
  have hlt:k<xs'.length:=by omega
  have hget:xs'[k]? =some xs'[k]:=q0a hlt
  have hr:=hx xs'[k] (lM hlt)
  obtain⟨s1,fl,q1,q2⟩:=X0v (M:=M) (a:=a) hb ha hr (bx:=xs'[k].1) (i:=k) (by omega) (ys:=ys) (by omega) h (b4:=b4) (b5:=b5) (b6:=b6) (l':=l') (es':=es') (xs':=xs') (x40:=x40) (o0:=o0) (t1:=t1) (t2:=t2) (t3:=t3) (o1:=o1) (o2:=o2) (x161:=uLs b6 xs') (x162:=(xs'.length:Int)) (u1:=u1) (u2:=u2) (u3:=u3) a 0 [] ⟨false,0,[]⟩ (by omega) (by simp;omega) .nil
  rw[List.nil_append,<-List.range_eq_range']at q2
  obtain⟨f1,f2,f3,zs,z1,z3⟩:=ih (k+1) _ s1 (by omega) (by simp;omega) q2
  rw[List.append_assoc]at z1
  refine⟨f1,f2,f3,(fl,bothB a b xs'[k].2)::zs, ?_,by rw[List.drop_eq_getElem_cons hlt,List.map_cons,List.map_cons,z3]⟩
  rw[K0c]
  rw[show((0:Nat):Int)=0 from rfl]at q1
  simp only[show((k:Int)<((xs'.length:Nat):Int)) by omega,dY,iT,j0U hget,oS,cell_uIs,q1,z1]
  rfl
end
end Go.Proofs.Ytglkhoamnmiolaa.R
