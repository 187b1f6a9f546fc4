/- - -/
import Derived.Test.YthjjbkiejkhjfaaWi
set_option linter.all false
namespace Go.Proofs.Ythjjbkiejkhjfaa.R
open Go Go.Proofs.Ythjjbkiejkhjfaa.Vm
variable{M:YM}
def find2(f:Int->List Int)(P:Int->Int->Bool):List Int->Option (Int×Int)
 | []=>none
 |i::l=>match(f i).find? (fun k=> !P i k)with
  |some k=>some (i,k)
  |none=>find2 f P l
def less2(x y:Int×Int):Bool:=decide (x.1<y.1)||(decide (x.1=y.1)&&decide (x.2<y.2))
def minStep(o:Option (Int×Int))(x:Int×Int):Option (Int×Int):=
 match o with
 |none=>some x
 |some m=>if less2 x m=true then some x else some m
def pairs3(f:Int->List Int)(P:Int->Int->Bool)(k:Int):List (Int×Int):=((f k).filter fun i=> !P k i).map fun i=>(i,k)
def tupC(s c i k:Int):Option Rz:=some (.tup [.st [.c (.int .i64 s), .c (.int .i64 c), .c (.int .i64 i), .c (.int .i64 k)], .c (.bool true)])
def tup0:Option Rz:=some (.tup [.st [.c (.int .i64 0), .c (.int .i64 0), .c (.int .i64 0), .c (.int .i64 0)], .c (.bool false)])
section
variable{N:Nat}{n:Int}{b1 b2 b3:Bool}{l:List Int}{es:List E3}{u1:U}
theorem q1O{b:Bool}{l:List Int}{g:FuncId}{a c:List U}{p:Int->Bool}(hp: ∀n∈l,ycall M g (a++[uI n]++c)=some (.val (.c (.bool (p n)))))(hn:l.length<=1000000): ∀(d k:Nat),k+d=l.length-> ∃i:Int,y82_1 M (uIs b l) (.fn g a c) (l.length:Int) (k:Int)=some (.val (uI i))/\decide (0<=i)=(l.drop k).any p:=by
 intro d
 induction d with
 |zero=>
  intro k hk
  rw[z0M,dL (by omega)]
  exact⟨-1,by simp[show¬((k:Int)<l.length) by omega],by simp⟩
 |succ d ih=>
  intro k hk
  have hlt:k<l.length:=by omega
  rw[z0M,List.drop_eq_getElem_cons hlt]
  simp only[show((k:Int)<l.length) by omega,dY,iT,q0m (q0b hlt),oS,cell_c,asI_c,q0a (show k<=1000000000 by omega),U.asF]
  have:=hp l[k] (lM hlt)
  simp only[uI]at this
  simp only[this,oS,toU_val,asB_c]
  cases h0:p l[k]with
  |true=>exact⟨k,by simp,by simp[-List.getElem_cons_drop,h0]⟩
  |false=>
   obtain⟨i,h1,h2⟩:=ih (k+1) (by omega)
   exact⟨i,by simp only[bF,iF,h1],by rw[h2];simp[-List.getElem_cons_drop,h0]⟩
theorem q1P{b:Bool}{l:List Int}{g:FuncId}{a c:List U}{p:Int->Bool}(hp: ∀n∈l,ycall M g (a++[uI n]++c)=some (.val (.c (.bool (p n)))))(hn:l.length<=1000000):y79 M (uIs b l) (.fn g a c)=some (.val (.c (.bool (l.any p)))):=by
 obtain⟨i,h1,h2⟩:=q1O (M:=M) (b:=b) hp hn l.length 0 (by omega)
 rw[J1q,Q0X]
 simp only[len_uIs,oS]
 rw[show((0:Nat):Int)=0 from rfl]at h1
 rw[h1]
 simp only[oS,toU_val,asI_c,h2,List.drop_zero]
theorem q0k(x a:Int):(stepsL es x a).length<=es.length:=w0F _ _ _
theorem Q1N(he:es.length<=2000)(hok: ∀e∈es,eOK (N:Int) e=true)(hs:es.Pairwise lt3){s b:Nat}{i k:Nat}{x y:E3}(hx:es[i]? =some x)(hy:es[k]? =some y)(hb:y.a=(b:Int))(hb2:b<12)(hsN:s<N):
  y94 M (openU N u1 b2 es) (s:Int) (i:Int) (k:Int)=some (.val (.c (.bool (tB es (s:Int) (b:Int) x.a y.t)))):=by
 obtain⟨v,v0,v1,v2,v3,v4,v5⟩:=q0f N u1 b2 es
 obtain⟨w,w1,w2⟩:=z0O hok hsN hb2
 obtain⟨f,f0,f1,f2,f3⟩:=q0t x
 obtain⟨g,g0,g1,g2,g3⟩:=q0t y
 have ho:U.one (openU N u1 b2 es)=some (openU N u1 b2 es):=rfl
 have hlen:=q0k (es:=es) (s:Int) (b:Int)
 have h79:=q1P (M:=M) (b:= !(stepsL es (s:Int) (b:Int)).isEmpty) (l:=stepsL es (s:Int) (b:Int)) (g:=109) (a:=[]) (c:=[.ref (.st [openU N u1 b2 es]) 0, .ref (.st [.c (.int .i64 y.f), .c (.int .i64 y.t), .c (.int .i64 y.a)]) 0, .ref (.st [.c (.int .i64 x.f), .c (.int .i64 x.t), .c (.int .i64 x.a)]) 0]) (p:=fun j=>hasS es (toOf es j) x.a y.t) (fun j hj=>by
  obtain⟨m,e,rfl,h2,_⟩:=mem_steps.1 hj
  have hto:toOf es (m:Int)=e.t:=by unfold toOf;rw[iN,h2];rfl
  rw[hto]
  exact J1G he hs h2) (by omega)
 rw[w0V (P:=fun v=>hasS es v x.a y.t)]at h79
 rw[W1R]
 have hr:rowU (stepsL es (s:Int) (b:Int))=uIs (!(stepsL es (s:Int) (b:Int)).isEmpty) (stepsL es (s:Int) (b:Int)):=rfl
 simp only[ho,v0,v3,v5,oS,q0l hx,q0l hy,f0,f1,f2,f3,g0,g1,g2,g3,i_uI,hb,w1,w2,hr,show(0:Int)<=(b:Int)/\(b:Int)<((12:Nat):Int)from⟨by omega,by omega⟩,and_self,iT]
 rw[hb]at h79
 simp only[h79,oS,toU_val,asB_c]
 rfl
def uC(s c:Int)(x:Int×Int):U:= .st [.c (.int .i64 s), .c (.int .i64 c), .c (.int .i64 x.1), .c (.int .i64 x.2)]
theorem Q1O{b:Bool}{s c:Int}{l:List (Int×Int)}{k:Nat}{x:Int×Int}(h:l[k]? =some x):U.idx 4 (.sl b (l.map (uC s c))) (k:Int)=some (uC s c x):=by
 simp[U.idx,U.asL,elU,h,U.size,U.cells,uC]
theorem Z0d(s c:Int)(x:Int×Int): ∃f,U.struct (uC s c x) 0 ks0=some f/\f 0=uI s/\f 1=uI c/\f 2=uI x.1/\f 3=uI x.2:=⟨_,rfl,rfl,rfl,rfl,rfl⟩
theorem Z1Q(s c:Int)(x m:Int×Int): ∃r:Int,ycall M 96 ([]++[.st [.c (.int .i64 s), .c (.int .i64 c), .c (.int .i64 x.1), .c (.int .i64 x.2)], .st [.c (.int .i64 s), .c (.int .i64 c), .c (.int .i64 m.1), .c (.int .i64 m.2)]]++[])=some (.val (uI r))/\decide (r<0)=less2 x m:=by
 have hlit:=fun a b=>j1n (M:=M) [a,b] (by simp)
 simp only[List.map_cons,List.map_nil,uI]at hlit
 refine⟨firstErr [cmpN x.1 m.1,cmpN x.2 m.2], ?_, ?_⟩
 ·show y96 M s c x.1 x.2 s c m.1 m.2=_
  rw[W1T]
  simp only[j1m,oS,toU_val,asI_uI,hlit,asI_c]
 ·unfold less2
  simp only[firstErr,cmpN]
  by_cases a1:x.1<m.1<;>by_cases a2:m.1<x.1<;>by_cases a3:x.2<m.2<;>by_cases a4:m.2<x.2<;>simp[a1,a2,a3,a4]<;>omega
theorem k1w{b:Bool}{s c:Int}{l:List (Int×Int)}(hn:l.length<=10000000){z0 z1 z2 z3:Int}: ∀(d k:Nat) (m:Int×Int),k+d=l.length-> ∃r,y95_2 M (.sl b (l.map (uC s c))) (.fn 96 [] []) z0 z1 z2 z3 s c m.1 m.2 (k:Int)=some (.val (uC s c r))/\(l.drop k).foldl minStep (some m)=some r:=by
 have hlen:U.len (.sl b (l.map (uC s c)))=some l.length:=by simp[U.len,U.asL]
 intro d
 induction d with
 |zero=>
  intro k m hk
  rw[Y0O,dL (by omega)]
  simp only[hlen,oS,show¬((k:Int)<l.length) by omega,dF,bF,iF]
  exact⟨m,rfl,rfl⟩
 |succ d ih=>
  intro k m hk
  have hlt:k<l.length:=by omega
  obtain⟨f,f0,f1,f2,f3,f4⟩:=Z0d s c l[k]
  obtain⟨r,r1,r2⟩:=Z1Q (M:=M) s c l[k] m
  rw[Y0O,List.drop_eq_getElem_cons hlt]
  simp only[hlen,oS,show((k:Int)<l.length) by omega,dY,iT,Q1O (q0b hlt),f0,f1,f2,f3,f4,i_uI,U.asF,r1,toU_val,asI_uI,Q1J,q0a (show k<=1000000000 by omega),r2,List.foldl_cons,minStep]
  cases less2 l[k] m with
  |true=>simp only[iT];exact ih (k+1) l[k] (by omega)
  |false=>simp only[bF,iF];exact ih (k+1) m (by omega)
theorem Z1R{b:Bool}{s c:Int}{l:List (Int×Int)}(hn:l.length<=10000000)(h0:l≠[]): ∃r,y95 M (.sl b (l.map (uC s c))) (.fn 96 [] [])=some (.val (uC s c r))/\l.foldl minStep none=some r:=by
 have hlen:U.len (.sl b (l.map (uC s c)))=some l.length:=by simp[U.len,U.asL]
 cases l with
 |nil=>exact absurd rfl h0
 |cons x l=>
  obtain⟨f,f0,f1,f2,f3,f4⟩:=Z0d s c x
  obtain⟨r,r1,r2⟩:=k1w (M:=M) (b:=b) (s:=s) (c:=c) (z0:=0) (z1:=0) (z2:=0) (z3:=0) hn l.length 1 x (by simp;omega)
  have hi:U.idx 4 (.sl b ((x::l).map (uC s c))) 0=some (uC s c x):=Q1O (k:=0) rfl
  rw[show((1:Nat):Int)=1 from rfl]at r1
  refine⟨r, ?_, ?_⟩
  ·rw[W1S,Q1I]
   simp only[hlen,oS,hi,f0,f1,f2,f3,f4,i_uI,r1,List.length_cons]
   rw[if_neg (by simp;omega)]
  ·simpa[minStep]using r2
def clashAt(es:List E3)(s a b:Int):Option (Int×Int×Int):=
 if(stepsL es s a).isEmpty||(stepsL es s b).isEmpty then none else
 match find2 (fun _=>stepsL es s b) (fun i k=>mB es (toOf es i) b (toOf es k) a) (stepsL es s a)with
 |some (i,k)=>some (1,i,k)
 |none=>match find2 (fun i=>stepsL es (toOf es i) b) (fun i k=>tB es s b a (toOf es k)) (stepsL es s a)with
  |some (i,k)=>some (2,i,k)
  |none=>(((stepsL es s b).flatMap (pairs3 (fun k=>stepsL es (toOf es k) a) fun k i=>tB es s a b (toOf es i))).foldl minStep none).map fun x=>(3,x.1,x.2)
def clashL(es:List E3)(a b:Int):Nat->Nat->Option (Int×Int×Int×Int)
 | 0,_=>none
 |d+1,s=>match clashAt es (s:Int) a b with
  |some (c,i,k)=>some ((s:Int),c,i,k)
  |none=>clashL es a b d (s+1)
def resC:Option (Int×Int×Int×Int)->Option Rz
 |none=>tup0
 |some (s,c,i,k)=>tupC s c i k
end
end Go.Proofs.Ythjjbkiejkhjfaa.R
