/- - -/
import Derived.Calls
import Derived.Below
import Derived.Laws.Entries
import Derived.Laws.Cells
import Derived.Laws.Rows
import Derived.Laws.Append
import Derived.Laws.MakeOwn
import Derived.IntWalk
import Derived.Laws.Build
import Derived.Laws.Small
import Derived.Laws.Strings
import Derived.Laws.StructEq
set_option linter.all false
namespace Go.Proofs.Ytglkhoamnmiolaa.Vm
open Go
theorem mA {α : Type} {a : α} {s t : List α} : a ∈ s ++ t ↔ a ∈ s \/ a ∈ t := List.mem_append
theorem mC {α : Type} {a b : α} {l : List α} : a ∈ b :: l ↔ a = b \/ a ∈ l := List.mem_cons
theorem dE {p : Prop} [Decidable p] : (decide p = true) = p := decide_eq_true_eq
theorem dN {p : Prop} {_ : Decidable p} : decide p = false ↔ ¬p := decide_eq_false_iff_not
theorem dY {h : Decidable True} : decide True = true := decide_true h
theorem dF {h : Decidable False} : decide False = false := decide_false h
theorem iT {α : Type} {h : Decidable True} (t e : α) : ite True t e = t := if_pos trivial
theorem iF {α : Type} {h : Decidable False} (t e : α) : ite False t e = e := if_neg id
theorem iZ {a : Int} (h : 0 <= a) : ∃ n : Nat, a = n := Int.eq_ofNat_of_zero_le h
theorem bN (b : Bool) : ((!b) = true) = (b = false) := Bool.not_eq_true' b
theorem oB{α β:Type}{x:Option α}{f:α->Option β}{b:β}:x.bind f=some b↔ ∃a,x=some a/\f a=some b:=Option.bind_eq_some_iff
theorem oS{α β:Type}(a:α)(f:α->Option β):(some a).bind f=f a:=rfl
theorem bA(a b:Bool):((a&&b)=true)=(a=true/\b=true):=Bool.and_eq_true a b
theorem bF:(false=true)=False:=Bool.false_eq_true
theorem gE{α:Type}{l:List α}{i:Nat}{a:α}:l[i]? =some a↔ ∃h:i<l.length,l[i]=a:=List.getElem?_eq_some_iff
theorem dL{α:Type}{l:List α}{i:Nat}(h:l.length<=i):l.drop i=[]:=List.drop_of_length_le h
theorem oM{α β:Type}{x:Option α}{f:α->β}{b:β}:x.map f=some b↔ ∃a,x=some a/\f a=b:=Option.map_eq_some_iff
theorem nL{n m k:Nat}(h:n<m)(h2:m<=k):n<k:=Nat.lt_of_lt_of_le h h2
theorem nT{n m k:Nat}(h:n<=m)(h2:m<=k):n<=k:=Nat.le_trans h h2
theorem nR(n:Nat):n<=n:=Nat.le_refl n
theorem iN(n:Nat):((n:Int)).toNat=n:=Int.toNat_natCast n
theorem lG{α:Type}{l:List α}{i:Nat}{a:α}:l.getD i a=l[i]?.getD a:=List.getD_eq_getElem?_getD
theorem oI{α:Type}(a b:α):(some a=some b)=(a=b):=Option.some.injEq a b
theorem lM{α:Type}{l:List α}{n:Nat}(h:n<l.length):l[n]∈l:=List.getElem_mem h
inductive C where
 |junk
 |bool (b:Bool)
 |int (k:IntKind) (n:Int)
 |str (s:ByteArray)
 |nilPtr
 |ptr (i o:Nat)
 |nilSlice
 |slice (i o n:Nat)
 |nilMap
 |map (i:Nat)
 |func (f:FuncId) (first cap:List C)
 |nilFunc
 |iface (t:TypeId) (agg:Bool) (cs:List C)
 |nilIface
 deriving Inhabited
inductive V where
 |c (x:C)
 |agg (cs:List C)
 |tuple (vs:List V)
 deriving Inhabited
inductive T where
 |poison
 |val (v:V)
 |loc (cs:List C)
 |laddr (q o:Nat)
 deriving Inhabited
abbrev Env:=List T
def Env.get(e:Env)(p:Nat):T:=e.getD p .poison
def T.purge(p:Nat):T->T
 | .laddr q o=>if q=p then .poison else .laddr q o
 |t=>t
def Env.put(e:Env)(p:Nat)(t:T):Env:=
 match e.get p with
 | .loc _=>(e.map (T.purge p)).set p (t.purge p)
 |_=>e.set p (t.purge p)
def Env.kill:List Nat->Env->Env
 | [],e=>e
 |p::ps,e=>Env.kill ps (Env.put e p .poison)
def T.clean(ks ts:List Nat)(p:Nat)(t:T):T:=
 if ks.contains p then .poison else match t with
 | .laddr q o=>if ks.contains q||ts.contains q then .poison else .laddr q o
 | .loc cs=>if ts.contains p then .poison else .loc cs
 |t=>t
def Env.cleanFrom(ks ts:List Nat):Nat->Env->Env
 |_,[]=>[]
 |p,t::e=>t.clean ks ts p::Env.cleanFrom ks ts (p+1) e
def Env.clean(ks ts:List Nat)(e:Env):Env:=Env.cleanFrom ks ts 0 e
inductive Obj where
 |cells (sz:Nat) (c:List C)
 |map (es:List (C×V))
 deriving Inhabited
structure Heap where
 next:Nat
 get:Nat->Option Obj
def Heap.alloc(H:Heap)(o:Obj):Heap:=⟨H.next+1,fun i=>if i=H.next then some o else H.get i⟩
def Heap.put(H:Heap)(i:Nat)(o:Obj):Heap:=⟨H.next,fun j=>if j=i then some o else H.get j⟩
def Heap.kill(H:Heap)(i:Nat):Heap:=⟨H.next,fun j=>if j=i then none else H.get j⟩
def Heap.ld(H:Heap)(i o:Nat):Option C:=
 match H.get i with
 |some (.cells _ c)=>c[o]?
 |_=>none
def Heap.ldN(H:Heap)(i o n:Nat):Option (List C):=
 match H.get i with
 |some (.cells _ c)=>if o+n<=c.length then some ((c.drop o).take n)else none
 |_=>none
def splice(c:List C)(o:Nat):List C->List C
 | []=>c
 |x::xs=>splice (c.set o x) (o+1) xs
def Heap.st(lim:Nat)(H:Heap)(i o:Nat)(xs:List C):Option Heap:=
 match H.get i with
 |some (.cells sz c)=>if lim<=i/\o+xs.length<=c.length then some (H.put i (.cells sz (splice c o xs)))else none
 |_=>none
def V.asC:V->Option C
 | .c x=>some x
 |_=>none
def V.cells:V->Option (List C)
 | .c x=>some [x]
 | .agg cs=>some cs
 | .tuple _=>none
def C.asB:C->Option Bool
 | .bool b=>some b
 |_=>none
def C.asI(k:IntKind):C->Option Int
 | .int k' n=>if k'=k then some n else none
 |_=>none
def C.asS:C->Option ByteArray
 | .str s=>some s
 |_=>none
def C.asIx:C->Option Int
 | .int _ n=>some n
 |_=>none
inductive K0 where
 |c |int (k:IntKind) |bool |str
 deriving Inhabited,DecidableEq
inductive KD where
 |any
 |one (k:K0)
 |agg (ks:List K0)
 deriving Inhabited
def V.ext(v:V)(i:Nat):Option V:=
 match v with
 | .tuple vs=>vs[i]?
 |_=>none
def V.cell(v:V)(o:Nat):Option C:=
 match v with
 | .agg cs=>cs[o]?
 |_=>none
def V.part(v:V)(o n:Nat):Option (List C):=
 match v with
 | .agg cs=>if o+n<=cs.length then some ((cs.drop o).take n)else none
 |_=>none
def V.asA(v:V):Option (List C):=
 match v with
 | .agg cs=>some cs
 |_=>none
def C.asF(x:C):Option (FuncId×List C×List C):=
 match x with
 | .func f a b=>some (f,a,b)
 |_=>none
def V.asP(v:V):Option (Nat×Nat):=v.asC.bind fun
 | .ptr i o=>some (i,o)
 |_=>none
def K0.take{R:Type}:K0->C->(C->Option R)->Option R
 | .c,x,K=>K x
 | .int k,x,K=>(x.asI k).bind fun n=>K (.int k n)
 | .bool,x,K=>x.asB.bind fun b=>K (.bool b)
 | .str,x,K=>x.asS.bind fun b=>K (.str b)
def headC:List C->Option C
 |x::_=>some x
 | []=>none
def takes{R:Type}:List K0->List C->(List C->Option R)->Option R
 | [],xs,K=>if xs.length=0 then K []else none
 |k::ks,xs,K=>(headC xs).bind fun x=>k.take x fun y=>takes ks (xs.drop 1) fun ys=>K (y::ys)
def KD.take{R:Type}:KD->V->(V->Option R)->Option R
 | .any,v,K=>K v
 | .one k,v,K=>v.asC.bind fun x=>k.take x fun y=>K (.c y)
 | .agg ks,v,K=>v.asA.bind fun xs=>takes ks xs fun ys=>K (.agg ys)
def Heap.lds{R:Type}(H:Heap)(i o:Nat):List K0->(List C->Option R)->Option R
 | [],K=>K []
 |kd::kds,K=>(H.ld i o).bind fun x=>kd.take x fun y=>H.lds i (o+1) kds fun xs=>K (y::xs)
inductive X where
 |t (p:Nat)
 |c (v:V)
 |f (g:FuncId)
 deriving Inhabited
def ev(e:Env):X->Option V
 | .t p=>match e.get p with
  | .val v=>some v
  |_=>none
 | .c v=>some v
 | .f g=>some (.c (.func g [] []))
def evC(e:Env)(x:X):Option C:=(ev e x).bind V.asC
def evI(k:IntKind)(e:Env)(x:X):Option Int:=(evC e x).bind (C.asI k)
def evB(e:Env)(x:X):Option Bool:=(evC e x).bind C.asB
def evs(e:Env):List X->Option (List V)
 | []=>some []
 |x::xs=>(ev e x).bind fun v=>(evs e xs).bind fun vs=>some (v::vs)
def evCs(e:Env):List X->Option (List C)
 | []=>some []
 |x::xs=>(evC e x).bind fun v=>(evCs e xs).bind fun vs=>some (v::vs)
def evLo(e:Env):Option X->Option Int
 |none=>some 0
 |some l=>(evC e l).bind C.asIx
def evHi(e:Env):Option X->Option (Option Int)
 |none=>some none
 |some h=>((evC e h).bind C.asIx).map some
def fillC(e:Env):List C->List (Nat×Nat×X)->Option (List C)
 |z,[]=>some z
 |z,(o,n,x)::ps=>(ev e x).bind fun v=>v.cells.bind fun xs=>if xs.length=n/\o+n<=z.length then fillC e (splice z o xs) ps else none
inductive NK where
 |ptr |slice |map |func |iface
 deriving Inhabited
inductive KK where
 |int |str |bool
 deriving Inhabited
inductive ROp where
 |mov (x:X)
 |box (sz:Nat) (x:X)
 |new (z:List C)
 |build (z:List C) (parts:List (Nat×Nat×X))
 |lit (sz len:Nat) (z:List C) (parts:List (Nat×Nat×X))
 |ld (kd:K0) (a:X)
 |lds (kds:List K0) (a:X)
 |ldN (n:Nat) (a:X)
 |ldL (q:Nat) (kd:K0) (a:X)
 |ldsL (q:Nat) (kds:List K0) (a:X)
 |nilck (x:X)
 |ar (op:BinOp) (k:IntKind) (x y:X)
 |cmp (op:BinOp) (k:IntKind) (x y:X)
 |dv (op:BinOp) (k:IntKind) (x y:X)
 |bit (op:BinOp) (k:IntKind) (x y:X)
 |sh (op:BinOp) (k j:IntKind) (x y:X)
 |eqB (ne:Bool) (x y:X)
 |eqA (ne:Bool) (ks:List K0) (x y:X)
 |cmpS (op:BinOp) (x y:X)
 |catS (x y:X)
 |eqN (nk:NK) (ne:Bool) (x:X)
 |not (x:X)
 |neg (k:IntKind) (x:X)
 |conv (j k:IntKind) (x:X)
 |fld (o:Nat) (a:X)
 |fldC (o:Nat) (x:X)
 |fldA (o n:Nat) (x:X)
 |idx (sz:Nat) (x i:X)
 |idxA (n sz:Nat) (a i:X)
 |idxS (x i:X)
 |idxVC (n:Nat) (kd:K0) (x i:X)
 |idxVA (n sz:Nat) (x i:X)
 |sub (sz:Nat) (x:X) (lo hi:Option X)
 |subS (x:X) (lo hi:Option X)
 |len (x:X)
 |lenS (x:X)
 |lenM (x:X)
 |app (sz:Nat) (s x:X)
 |copy (sz:Nat) (d s:X)
 |clr (z:List C) (x:X)
 |mkS (sz:Nat) (z:List C) (n:X)
 |mkF (f:FuncId) (cap:List X)
 |mkM
 |look (kk:KK) (z:V) (ok:Bool) (kd:KD) (m k:X)
 |mset (kk:KK) (m k v:X)
 |mdel (kk:KK) (m k:X)
 |call (f:FuncId) (kd:KD) (args:List X)
 |callV (x:X) (kd:KD) (args:List X)
 |ext (kd:KD) (x:X) (i:Nat)
 |mkI (t:TypeId) (x:X)
 |mm (isMax:Bool) (k:IntKind) (x y:X)
 |stH (n:Nat) (a x:X)
 |chkd (o:ROp) (d p:Nat) (ag:Bool) (ks:List K0)
 |subM (sz:Nat) (x:X) (lo hi mx:Option X)
 |capN (x:X)
 |appZ (sz:Nat) (z:List C) (s n:X)
 deriving Inhabited
inductive Ops where
 |nil
 |op (dst:Option Nat) (o:ROp) (rest:Ops)
 |lbox (n p:Nat) (x:X) (rest:Ops)
 |lnew (p:Nat) (z:List C) (rest:Ops)
 |st (hp:Option Nat) (n:Nat) (a x:X) (rest:Ops)
 |logic (and:Bool) (c:Nat) (inner:Ops) (keep:X) (dst:Nat) (rest:Ops)
 deriving Inhabited
abbrev CallT:=FuncId->List V->Heap->Option (V×Heap)
inductive Where where
 |loc (p o:Nat)
 |obj (i o:Nat)
def place(e:Env):X->Option Where
 | .t p=>match e.get p with
  | .loc _=>some (.loc p 0)
  | .laddr q o=>some (.loc q o)
  | .val (.c (.ptr i o))=>some (.obj i o)
  |_=>none
 | .c (.c (.ptr i o))=>some (.obj i o)
 |_=>none
def placeK{R:Type}(e:Env)(x:X)(Kl:Nat->Nat->Option R)(Ko:Nat->Nat->Option R):Option R:=
 match x with
 | .t p=>match e.get p with
  | .loc _=>Kl p 0
  | .laddr q o=>Kl q o
  | .val v=>v.asP.bind fun a=>Ko a.1 a.2
  | .poison=>none
 | .c v=>v.asP.bind fun a=>Ko a.1 a.2
 | .f _=>none
def locCells(e:Env)(p:Nat):Option (List C):=
 match e.get p with
 | .loc cs=>some cs
 |_=>none
def Where.shift(d:Nat):Where->T
 | .loc p o=> .laddr p (o+d)
 | .obj i o=> .val (.c (.ptr i (o+d)))
def arith(op:BinOp)(k:IntKind)(x y:Int):Int:=
 match op with
 | .add=>k.wrap (x+y)
 | .sub=>k.wrap (x - y)
 |_=>k.wrap (x*y)
def cmpI(op:BinOp)(x y:Int):Bool:=
 match op with
 | .eql=>decide (x=y)
 | .neq=> !decide (x=y)
 | .lss=>decide (x<y)
 | .leq=>decide (x<=y)
 | .gtr=>decide (y<x)
 |_=>decide (y<=x)
def divI(op:BinOp)(k:IntKind)(x y:Int):Int:=
 match op with
 | .quo=>k.wrap (x.tdiv y)
 |_=>x.tmod y
def bitI(op:BinOp)(k:IntKind)(x y:Int):Int:=
 let a:=BitVec.ofInt k.bits x
 let b:=BitVec.ofInt k.bits y
 k.wrap (match op with
  | .and=>a&&& b
  | .or=>a|||b
  | .xor=>a ^^^ b
  |_=>a&&& ~~~b).toNat
def shI(op:BinOp)(k:IntKind)(x y:Int):Int:=
 let n:=min y.toNat k.bits
 match op with
 | .shl=>k.wrap (x*2 ^ n)
 |_=>x.fdiv (2 ^ n)
def isNil:NK->C->Option Bool
 | .ptr, .nilPtr=>some true
 | .ptr, .ptr _ _=>some false
 | .slice, .nilSlice=>some true
 | .slice, .slice _ _ _=>some false
 | .map, .nilMap=>some true
 | .map, .map _=>some false
 | .func, .nilFunc=>some true
 | .func, .func _ _ _=>some false
 | .iface, .nilIface=>some true
 | .iface, .iface _ _ _=>some false
 |_,_=>none
def cmpStr(op:BinOp)(x y:ByteArray):Bool:=
 let eq:=decide (x.toList=y.toList)
 let lt:=Op.bytesLess x.toList y.toList
 match op with
 | .eql=>eq
 | .neq=> !eq
 | .lss=>lt
 | .leq=>lt||eq
 | .gtr=> !(lt||eq)
 |_=> !lt
def C.len:C->Option Nat
 | .nilSlice=>some 0
 | .slice _ _ n=>some n
 |_=>none
def C.elem(sz:Nat)(s:C)(i:Int):Option (Nat×Nat):=
 match s with
 | .slice id o n=>if 0<=i/\i<n then some (id,o+i.toNat*sz)else none
 |_=>none
def Heap.szBad(H:Heap)(id sz:Nat):Bool:=
 match H.get id with
 |some (.cells z _)=>z !=sz
 |_=>true
def Heap.sub(lim:Nat)(H:Heap)(sz:Nat)(s:C)(lo:Int)(hi:Option Int):Option C:=
 match s with
 | .slice id o n=>
  if 0<lo/\0<n/\lim<=id/\H.szBad id sz=true then none else
  if 0<=lo/\lo<=hi.getD n/\hi.getD n<=n then some (.slice id (o+lo.toNat*sz) (hi.getD n - lo).toNat)else none
 | .nilSlice=>if lo=0/\hi.getD 0=0 then some .nilSlice else none
 |_=>none
def Heap.subM(lim:Nat)(H:Heap)(sz:Nat)(s:C)(lo:Int)(hi mx:Option Int):Option C:=
 s.len.bind fun n=>if hi.getD n<=mx.getD n/\mx.getD n<=n then H.sub lim sz s lo hi else none
def C.isNilS:C->Bool
 | .nilSlice=>true
 |_=>false
def C.capN:C->Option Int
 | .nilSlice=>some 0
 |_=>none
def C.subS(s:C)(lo:Int)(hi:Option Int):Option C:=
 match s with
 | .str b=>if 0<=lo/\lo<=hi.getD b.size/\hi.getD b.size<=b.size then some (.str (b.extract lo.toNat (hi.getD b.size).toNat))else none
 |_=>none
def Heap.cellsOf(H:Heap)(sz:Nat):C->Option (List C)
 | .slice i o n=>H.ldN i o (n*sz)
 | .nilSlice=>some []
 |_=>none
def roomy(n:Nat):Prop:=n<=2 ^ 36
instance (n:Nat):Decidable (roomy n):=inferInstanceAs (Decidable (n<=2 ^ 36))
def Heap.app(lim:Nat)(H:Heap)(sz:Nat)(s:C)(xs:List C)(n:Nat):Option (C×Heap):=
 match s with
 | .nilSlice=>if n=0 then some (.nilSlice,H)else if roomy n then some (.slice H.next 0 n,H.alloc (.cells sz xs))else none
 | .slice i o m=>
  match H.get i with
  |some (.cells sz' c)=>
   if lim<=i/\sz'=sz/\o+m*sz<=c.length/\roomy (m+n)then
    some (.slice H.next 0 (m+n),(H.kill i).alloc (.cells sz ((c.drop o).take (m*sz)++xs)))
   else none
  |_=>none
 |_=>none
def Heap.copy(lim:Nat)(H:Heap)(sz:Nat)(d:C)(xs:List C)(n:Nat):Option (Nat×Heap):=
 match d with
 | .nilSlice=>some (0,H)
 | .slice i o m=>(H.st lim i o (xs.take (Nat.min n m*sz))).map fun H'=>(Nat.min n m,H')
 |_=>none
mutual
def eqC:C->C->Bool
 | .junk, .junk=>true
 | .bool a, .bool b=>a==b
 | .int k a, .int j b=>k==j&&decide (a=b)
 | .str a, .str b=>decide (a=b)
 | .nilPtr, .nilPtr=>true
 | .ptr i o, .ptr j p=>i==j&&o==p
 | .nilSlice, .nilSlice=>true
 | .slice i o n, .slice j p m=>i==j&&o==p&&n==m
 | .nilMap, .nilMap=>true
 | .map i, .map j=>i==j
 | .func f a c, .func g b d=>f==g&&eqCs a b&&eqCs c d
 | .nilFunc, .nilFunc=>true
 | .iface t a cs, .iface u b ds=>t==u&&a==b&&eqCs cs ds
 | .nilIface, .nilIface=>true
 |_,_=>false
def eqCs:List C->List C->Bool
 | [],[]=>true
 |x::xs,y::ys=>eqC x y&&eqCs xs ys
 |_,_=>false
end
mutual
def eqV:V->V->Bool
 | .c x, .c y=>eqC x y
 | .agg a, .agg b=>eqCs a b
 | .tuple a, .tuple b=>eqVs a b
 |_,_=>false
def eqVs:List V->List V->Bool
 | [],[]=>true
 |x::xs,y::ys=>eqV x y&&eqVs xs ys
 |_,_=>false
end
def eqK:K0->C->C->Option Bool
 | .int k,x,y=>(x.asI k).bind fun a=>(y.asI k).bind fun b=>some (decide (a=b))
 | .bool,x,y=>x.asB.bind fun a=>y.asB.bind fun b=>some (a==b)
 | .str,x,y=>x.asS.bind fun a=>y.asS.bind fun b=>some (decide (a.toList=b.toList))
 | .c,_,_=>none
def eqKs:List K0->List C->List C->Option Bool
 | [],[],[]=>some true
 |k::ks,x::xs,y::ys=>(eqK k x y).bind fun b=>(eqKs ks xs ys).bind fun r=>some (b&&r)
 |_,_,_=>none
def Heap.clr(lim:Nat)(H:Heap)(z:List C)(s:C):Option Heap:=
 match s with
 | .nilSlice=>some H
 | .slice i o n=>if n=0 then some H else H.st lim i o (List.replicate n z).flatten
 |_=>none
def sameKey:KK->C->C->Option Bool
 | .int, .int k a, .int j b=>if k=j then some (a==b)else none
 | .str, .str a, .str b=>some (a==b)
 | .bool, .bool a, .bool b=>some (a==b)
 |_,_,_=>none
def findK(kk:KK)(k:C):List (C×V)->Option (Option V)
 | []=>some none
 |(a,v)::es=>(sameKey kk k a).bind fun b=>if b then some (some v)else findK kk k es
def Heap.getMap(H:Heap):C->Option (List (C×V))
 | .nilMap=>some []
 | .map i=>match H.get i with
  |some (.map es)=>some es
  |_=>none
 |_=>none
def setK(kk:KK)(k:C)(v:V):List (C×V)->Option (List (C×V))
 | []=>some [(k,v)]
 |(a,u)::es=>(sameKey kk k a).bind fun b=>if b then some ((a,v)::es)else(setK kk k v es).map ((a,u):: ·)
def delK(kk:KK)(k:C):List (C×V)->Option (List (C×V))
 | []=>some []
 |(a,u)::es=>(sameKey kk k a).bind fun b=>if b then some es else(delK kk k es).map ((a,u):: ·)
def Heap.mset(lim:Nat)(H:Heap)(kk:KK)(m k:C)(v:V):Option Heap:=
 match m with
 | .map i=>match H.get i with
  |some (.map es)=>if lim<=i then(setK kk k v es).map fun es'=>H.put i (.map es')else none
  |_=>none
 |_=>none
def Heap.mdel(lim:Nat)(H:Heap)(kk:KK)(m k:C):Option Heap:=
 match m with
 | .nilMap=>some H
 | .map i=>match H.get i with
  |some (.map es)=>if lim<=i then(delK kk k es).map fun es'=>H.put i (.map es')else none
  |_=>none
 |_=>none
def Heap.rd(H:Heap)(e:Env)(p:Nat)(ag:Bool)(ks:List K0):Option V:=
 match e.get p with
 | .val v=>v.asP.bind fun a=>if ag=true then H.lds a.1 a.2 ks fun cs=>some (.agg cs)else(H.ld a.1 a.2).bind fun x=>(ks.headD .c).take x fun y=>some (.c y)
 |_=>none
def seen(e:Env)(H:Heap)(d p:Nat)(ag:Bool)(ks:List K0):Bool:=
 match e.get d with
 | .val u=>match H.rd e p ag ks with
  |some v=>eqV v u
  |none=>false
 |_=>false
def ROp.core:ROp->ROp
 | .chkd o _ _ _ _=>o.core
 |o=>o
section
variable{R:Type}(lim:Nat)(call:CallT)
def evalOp(e:Env)(H:Heap):ROp->(T->Heap->Option R)->Option R
 | .mov x,K=>(ev e x).bind fun v=>K (.val v) H
 | .box sz x,K=>(ev e x).bind fun v=>v.cells.bind fun xs=>if xs.length=sz then K (.val (.c (.ptr H.next 0))) (H.alloc (.cells sz xs))else none
 | .new z,K=>K (.val (.c (.ptr H.next 0))) (H.alloc (.cells z.length z))
 | .build z ps,K=>(fillC e z ps).bind fun cs=>K (.val (.agg cs)) H
 | .lit sz len z ps,K=>(fillC e z ps).bind fun cs=>K (.val (.c (.slice H.next 0 len))) (H.alloc (.cells sz cs))
 | .ld kd a,K=>placeK e a
  (fun _ _=>none)
  (fun i o=>(H.ld i o).bind fun x=>kd.take x fun y=>K (.val (.c y)) H)
 | .lds kds a,K=>placeK e a
  (fun _ _=>none)
  (fun i o=>H.lds i o kds fun cs=>K (.val (.agg cs)) H)
 | .ldN n a,K=>placeK e a
  (fun p o=>(locCells e p).bind fun cs=>if o+n<=cs.length then K (.val (.agg ((cs.drop o).take n))) H else none)
  (fun i o=>(H.ldN i o n).bind fun cs=>K (.val (.agg cs)) H)
 | .ldL q kd a,K=>placeK e a
  (fun p o=>if p=q then(locCells e p).bind fun cs=>(cs[o]?).bind fun x=>kd.take x fun y=>K (.val (.c y)) H else none)
  (fun _ _=>none)
 | .ldsL q kds a,K=>placeK e a
  (fun p o=>if p=q then(locCells e p).bind fun cs=>if o+kds.length<=cs.length then K (.val (.agg ((cs.drop o).take kds.length))) H else none else none)
  (fun _ _=>none)
 | .nilck x,K=>(evC e x).bind fun
  | .ptr i o=>K (.val (.c (.ptr i o))) H
  |_=>none
 | .ar op k x y,K=>(evI k e x).bind fun a=>(evI k e y).bind fun b=>K (.val (.c (.int k (arith op k a b)))) H
 | .cmp op k x y,K=>(evI k e x).bind fun a=>(evI k e y).bind fun b=>K (.val (.c (.bool (cmpI op a b)))) H
 | .dv op k x y,K=>(evI k e x).bind fun a=>(evI k e y).bind fun b=>if b=0 then none else K (.val (.c (.int k (divI op k a b)))) H
 | .bit op k x y,K=>(evI k e x).bind fun a=>(evI k e y).bind fun b=>K (.val (.c (.int k (bitI op k a b)))) H
 | .sh op k j x y,K=>(evI k e x).bind fun a=>(evI j e y).bind fun b=>if b<0 then none else K (.val (.c (.int k (shI op k a b)))) H
 | .eqB ne x y,K=>(evB e x).bind fun a=>(evB e y).bind fun b=>K (.val (.c (.bool ((a==b)!=ne)))) H
 | .eqA ne ks x y,K=>(ev e x).bind fun v=>v.asA.bind fun xs=>(ev e y).bind fun u=>u.asA.bind fun ys=>(eqKs ks xs ys).bind fun b=>K (.val (.c (.bool (b !=ne)))) H
 | .cmpS op x y,K=>(evC e x).bind fun x=>x.asS.bind fun a=>(evC e y).bind fun y=>y.asS.bind fun b=>K (.val (.c (.bool (cmpStr op a b)))) H
 | .catS x y,K=>(evC e x).bind fun x=>x.asS.bind fun a=>(evC e y).bind fun y=>y.asS.bind fun b=>if roomy (a.size+b.size)then K (.val (.c (.str (a++b)))) H else none
 | .eqN nk ne x,K=>(evC e x).bind fun x=>(isNil nk x).bind fun b=>K (.val (.c (.bool (b !=ne)))) H
 | .not x,K=>(evB e x).bind fun b=>K (.val (.c (.bool (!b)))) H
 | .neg k x,K=>(evI k e x).bind fun a=>K (.val (.c (.int k (k.wrap (0 - a))))) H
 | .conv j k x,K=>(evI j e x).bind fun a=>K (.val (.c (.int k (k.wrap a)))) H
 | .fld o a,K=>placeK e a (fun p q=>K (.laddr p (q+o)) H) (fun i q=>K (.val (.c (.ptr i (q+o)))) H)
 | .fldC o x,K=>(ev e x).bind fun v=>(v.cell o).bind fun x=>K (.val (.c x)) H
 | .fldA o n x,K=>(ev e x).bind fun v=>(v.part o n).bind fun xs=>K (.val (.agg xs)) H
 | .idx sz x i,K=>(evC e x).bind fun s=>(evC e i).bind fun i=>i.asIx.bind fun n=>(s.elem sz n).bind fun q=>K (.val (.c (.ptr q.1 q.2))) H
 | .idxA n sz a i,K=>(evC e i).bind fun i=>i.asIx.bind fun m=>if 0<=m/\m<n then placeK e a (fun p q=>K (.laddr p (q+m.toNat*sz)) H) (fun i q=>K (.val (.c (.ptr i (q+m.toNat*sz)))) H)else none
 | .idxS x i,K=>(evC e x).bind fun s=>s.asS.bind fun s=>(evC e i).bind fun i=>i.asIx.bind fun m=>if 0<=m then(s[m.toNat]?).bind fun b=>K (.val (.c (.int .u8 b.toNat))) H else none
 | .idxVC n kd x i,K=>(ev e x).bind fun v=>(evC e i).bind fun i=>i.asIx.bind fun m=>if 0<=m/\m<n then(v.cell m.toNat).bind fun c=>kd.take c fun y=>K (.val (.c y)) H else none
 | .idxVA n sz x i,K=>(ev e x).bind fun v=>(evC e i).bind fun i=>i.asIx.bind fun m=>if 0<=m/\m<n then(v.part (m.toNat*sz) sz).bind fun cs=>K (.val (.agg cs)) H else none
 | .sub sz x lo hi,K=>(evC e x).bind fun s=>(evLo e lo).bind fun l=>(evHi e hi).bind fun h=>(H.sub lim sz s l h).bind fun r=>K (.val (.c r)) H
 | .subM sz x lo hi mx,K=>(evC e x).bind fun s=>(evLo e lo).bind fun l=>(evHi e hi).bind fun h=>(evHi e mx).bind fun m=>(H.subM lim sz s l h m).bind fun r=>K (.val (.c r)) H
 | .appZ sz z s n,K=>(evC e s).bind fun s=>(evI .i64 e n).bind fun n=>if s.isNilS=true/\0<n/\n<=2 ^ 36 then K (.val (.c (.slice H.next 0 n.toNat))) (H.alloc (.cells sz ((List.replicate n.toNat z).flatten)))else none
 | .capN x,K=>(evC e x).bind fun s=>s.capN.bind fun n=>K (.val (.c (.int .i64 n))) H
 | .subS x lo hi,K=>(evC e x).bind fun s=>(evLo e lo).bind fun l=>(evHi e hi).bind fun h=>(s.subS l h).bind fun r=>K (.val (.c r)) H
 | .len x,K=>(evC e x).bind fun s=>s.len.bind fun n=>K (.val (.c (.int .i64 n))) H
 | .lenS x,K=>(evC e x).bind fun s=>s.asS.bind fun b=>K (.val (.c (.int .i64 b.size))) H
 | .lenM x,K=>(evC e x).bind fun m=>(H.getMap m).bind fun es=>K (.val (.c (.int .i64 es.length))) H
 | .app sz s x,K=>(evC e s).bind fun s=>(evC e x).bind fun x=>(H.cellsOf sz x).bind fun xs=>x.len.bind fun n=>(H.app lim sz s xs n).bind fun q=>K (.val (.c q.1)) q.2
 | .copy sz d s,K=>(evC e d).bind fun d=>(evC e s).bind fun s=>(H.cellsOf sz s).bind fun xs=>s.len.bind fun n=>(H.copy lim sz d xs n).bind fun q=>K (.val (.c (.int .i64 q.1))) q.2
 | .clr z x,K=>(evC e x).bind fun s=>(H.clr lim z s).bind fun H'=>K .poison H'
 | .mkS sz z n,K=>(evI .i64 e n).bind fun n=>if 0<=n/\n<=2 ^ 36 then K (.val (.c (.slice H.next 0 n.toNat))) (H.alloc (.cells sz ((List.replicate n.toNat z).flatten)))else none
 | .mkF f cap,K=>(evCs e cap).bind fun cs=>K (.val (.c (.func f [] cs))) H
 | .mkM,K=>K (.val (.c (.map H.next))) (H.alloc (.map []))
 | .look kk z ok kd m k,K=>(evC e m).bind fun m=>(evC e k).bind fun k=>(H.getMap m).bind fun es=>(findK kk k es).bind fun r=>
  kd.take (r.getD z) fun v=>K (.val (if ok then .tuple [v, .c (.bool r.isSome)]else v)) H
 | .mset kk m k v,K=>(evC e m).bind fun m=>(evC e k).bind fun k=>(ev e v).bind fun v=>(H.mset lim kk m k v).bind fun H'=>K .poison H'
 | .mdel kk m k,K=>(evC e m).bind fun m=>(evC e k).bind fun k=>(H.mdel lim kk m k).bind fun H'=>K .poison H'
 | .call f kd args,K=>(evs e args).bind fun vs=>(call f vs H).bind fun q=>kd.take q.1 fun v=>K (.val v) q.2
 | .callV x kd args,K=>(evC e x).bind fun c=>c.asF.bind fun q=>(evs e args).bind fun vs=>(call q.1 (q.2.1.map .c++vs++q.2.2.map .c) H).bind fun q=>kd.take q.1 fun v=>K (.val v) q.2
 | .ext kd x i,K=>(ev e x).bind fun v=>(v.ext i).bind fun v=>kd.take v fun u=>K (.val u) H
 | .mkI t x,K=>(ev e x).bind fun
  | .c x=>K (.val (.c (.iface t false [x]))) H
  | .agg cs=>K (.val (.c (.iface t true cs))) H
  |_=>none
 | .stH n a x,K=>(ev e x).bind fun v=>v.cells.bind fun xs=>if xs.length≠n then none else placeK e a (fun _ _=>none) (fun i o=>(H.st lim i o xs).bind fun H'=>K .poison H')
 | .chkd o d p ag ks,K=>evalOp e H o fun t H'=>if seen e H' d p ag ks=true then K t H' else none
 | .mm mx k x y,K=>(evI k e x).bind fun a=>(evI k e y).bind fun b=>K (.val (.c (.int k (if mx then(if b>a then b else a)else(if b<a then b else a))))) H
def dsts:Ops->List Nat
 | .nil=>[]
 | .op d _ r=>d.toList++dsts r
 | .lbox _ p _ r=>p::dsts r
 | .lnew p _ r=>p::dsts r
 | .st _ _ _ _ r=>dsts r
 | .logic _ _ i _ d r=>dsts i++d::dsts r
def Env.putO(e:Env):Option Nat->T->Env
 |some d,t=>e.put d t
 |none,_=>e
def runOps{R:Type}:Ops->Env->Heap->(Env->Heap->Option R)->Option R
 | .nil,e,H,K=>K e H
 | .op d o r,e,H,K=>evalOp lim call e H o fun t H'=>runOps r (e.putO d t) H' K
 | .lbox n p x r,e,H,K=>(ev e x).bind fun v=>v.cells.bind fun xs=>if xs.length=n then runOps r ((e.map (T.purge p)).set p (.loc xs)) H K else none
 | .lnew p z r,e,H,K=>runOps r ((e.map (T.purge p)).set p (.loc z)) H K
 | .st hp n a x r,e,H,K=>(ev e x).bind fun v=>v.cells.bind fun xs=>if xs.length≠n then none else placeK e a
  (fun p o=>if hp≠some p then none else(locCells e p).bind fun cs=>if o+n<=cs.length then runOps r (e.set p (.loc (splice cs o xs))) H K else none)
  (fun i o=>if hp≠none then none else(H.st lim i o xs).bind fun H'=>runOps r e H' K)
 | .logic and c inner keep d r,e,H,K=>(evB e (.t c)).bind fun b=>
  (if b=and then runOps inner e H (fun e' H'=>(evB e' keep).bind fun r=>some (r,H'))else some (b,H)).bind fun q=>
   runOps r ((Env.kill (dsts inner) e).put d (.val (.c (.bool q.1)))) q.2 K
end
inductive RC where
 |skip
 |ops (o:Ops)
 |dops (perm ks ts:List Nat) (o:Ops)
 |seq (a b:RC)
 |cond (x:X) (a b:RC) (join:Option (Nat×List Nat))
 |block (id:Nat) (c:RC)
 |loop (l:Nat) (dead:List Nat) (c:RC)
 |exit (id:Nat)
 |ret
 |stuck
 deriving Inhabited
inductive Flow where
 |normal
 |exit (id:Nat)
abbrev Rs:=Option (V×Heap)
abbrev KT:=Flow->Env->Heap->Rs
section
variable(lim:Nat)(call:CallT)(jump:Nat->Env->Heap->Rs)(fin:Env->Heap->Rs)
def joinK(j:Option (Nat×List Nat))(K:KT):KT:=
 match j with
 |none=>K
 |some (l,dead)=>fun fl e H=>match fl with
  | .normal=>jump l (Env.kill dead e) H
  | .exit id=>K (.exit id) e H
def loopK(l:Nat)(dead:List Nat)(K:KT):KT:=fun fl e H=>match fl with
 | .normal=>jump l (Env.kill dead e) H
 | .exit id=>K (.exit id) e H
def blockK(id:Nat)(K:KT):KT:=fun fl e H=>match fl with
 | .normal=>K .normal e H
 | .exit i=>if i=id then K .normal e H else K (.exit i) e H
def seqK(g:Env->Heap->Rs)(K:KT):KT:=fun fl e H=>match fl with
 | .normal=>g e H
 | .exit id=>K (.exit id) e H
def exec:RC->Env->Heap->KT->Rs
 | .skip,e,H,K=>K .normal e H
 | .ops o,e,H,K=>runOps lim call o e H fun e' H'=>K .normal e' H'
 | .dops _ ks ts o,e,H,K=>if(ks++ts).all (fun p=>decide (p<e.length))=true then runOps lim call o (Env.clean ks ts e) H fun e' H'=>K .normal e' H' else none
 | .seq a b,e,H,K=>exec a e H (seqK (fun e' H'=>exec b e' H' K) K)
 | .cond x a b j,e,H,K=>(evB e x).bind fun c=>if c=true then exec a e H (joinK jump j K)else exec b e H (joinK jump j K)
 | .block id c,e,H,K=>exec c e H (blockK id K)
 | .loop l dead _,e,H,_=>jump l (Env.kill dead e) H
 | .exit id,e,H,K=>K (.exit id) e H
 | .ret,e,H,_=>fin e H
 | .stuck,_,_,_=>none
def find(l:Nat):RC->KT->Option (Env->Heap->Rs)
 | .seq a b,K=>(find l a (seqK (fun e' H'=>exec lim call jump fin b e' H' K) K))<|>find l b K
 | .cond _ a b j,K=>if(j.map (·.1))=some l then some (K .normal)else find l a (joinK jump j K)<|>find l b (joinK jump j K)
 | .block id c,K=>find l c (blockK id K)
 | .loop l' dead c,K=>if l'=l then some fun e H=>exec lim call jump fin c e H (loopK jump l' dead K)else find l c (loopK jump l' dead K)
 |_,_=>none
end
inductive Res where
 |t (p:Nat)
 |cell1 (a:Nat)
 |cells (a n:Nat)
 deriving Inhabited
structure RFunc where
 ntmps:Nat
 res:List Res
 body:RC
 deriving Inhabited
def res1(e:Env)(H:Heap):Res->Option V
 | .t p=>ev e (.t p)
 | .cell1 a=>placeK e (.t a) (fun p o=>(locCells e p).bind fun cs=>(cs[o]?).bind fun x=>some (.c x)) (fun i o=>(H.ld i o).bind fun x=>some (.c x))
 | .cells a n=>placeK e (.t a) (fun p o=>(locCells e p).bind fun cs=>if o+n<=cs.length then some (.agg ((cs.drop o).take n))else none) (fun i o=>(H.ldN i o n).bind fun x=>some (.agg x))
def resAll(e:Env)(H:Heap):List Res->Option (List V)
 | []=>some []
 |r::rs=>(res1 e H r).bind fun v=>(resAll e H rs).bind fun vs=>some (v::vs)
def finish(rf:RFunc)(e:Env)(H:Heap):Rs:=(resAll e H rf.res).bind fun
 | [v]=>some (v,H)
 |vs=>some (.tuple vs,H)
def endK(rf:RFunc):KT:=fun fl e H=>match fl with
 | .normal=>finish rf e H
 | .exit _=>none
abbrev RunT:=FuncId->Nat->Env->Heap->Rs
def callOf(run:RunT):CallT:=fun f vs H=>run f 0 (vs.map .val) H
def stepR(ext:FuncId->Env->Heap->Rs)(prog:FuncId->Option RFunc)(lim:Nat)(run:RunT):RunT:=fun f l e H=>
 match prog f with
 |none=>if l=0 then ext f e H else none
 |some rf=>
  if l=0 then exec lim (callOf run) (run f) (finish rf) rf.body (e++List.replicate (rf.ntmps - e.length) .poison) H (endK rf)
  else match find lim (callOf run) (run f) (finish rf) l rf.body (endK rf)with
   |some g=>g e H
   |none=>none
def runN(ext:FuncId->Env->Heap->Rs)(prog:FuncId->Option RFunc)(lim:Nat):Nat->RunT
 | 0=>fun _ _ _ _=>none
 |k+1=>stepR ext prog lim (runN ext prog lim k)
open Classical in
noncomputable def run(ext:FuncId->Env->Heap->Rs)(prog:FuncId->Option RFunc)(lim:Nat):RunT:=fun f l e H=>
 if h: ∃k,(runN ext prog lim k f l e H).isSome then runN ext prog lim h.choose f l e H else none
structure Apx {α:Type} (g:Nat->Option α) (a:Option α):Prop where
 up: ∀k x,g k=some x->g (k+1)=some x
 hi: ∀k x,g k=some x->a=some x
 ex: ∀x,a=some x-> ∃k,g k=some x
theorem Apx.at_{α:Type}{g:Nat->Option α}{a:Option α}(h:Apx g a){k:Nat}{x:α}(hk:g k=some x): ∀j,g (k+j)=some x
 | 0=>hk
 |j+1=>h.up _ _ (h.at_ hk j)
theorem Apx.le{α:Type}{g:Nat->Option α}{a:Option α}(h:Apx g a){k m:Nat}{x:α}(hk:g k=some x)(hm:k<=m):g m=some x:=by
 obtain⟨j,rfl⟩:=Nat.exists_eq_add_of_le hm
 exact h.at_ hk j
theorem Apx.const{α:Type}(a:Option α):Apx (fun _=>a) a:=⟨fun _ _ h=>h,fun _ _ h=>h,fun _ h=>⟨0,h⟩⟩
theorem Apx.bind{α β:Type}{g:Nat->Option α}{a:Option α}{f:Nat->α->Option β}{f':α->Option β}(h:Apx g a)(hf: ∀x,Apx (fun k=>f k x) (f' x)):
  Apx (fun k=>(g k).bind (f k)) (a.bind f'):=by
 refine⟨fun k y hy=> ?_,fun k y hy=> ?_,fun y hy=> ?_⟩
 ·obtain⟨x,hx,hy⟩:=oB.1 hy
  exact oB.2 ⟨x,h.up _ _ hx,(hf x).up _ _ hy⟩
 ·obtain⟨x,hx,hy⟩:=oB.1 hy
  exact oB.2 ⟨x,h.hi _ _ hx,(hf x).hi _ _ hy⟩
 ·obtain⟨x,hx,hy⟩:=oB.1 hy
  obtain⟨k1,h1⟩:=h.ex _ hx
  obtain⟨k2,h2⟩:=(hf x).ex _ hy
  exact⟨max k1 k2,oB.2 ⟨x,h.le h1 (Nat.le_max_left _ _),(hf x).le h2 (Nat.le_max_right _ _)⟩⟩
theorem Apx.cbind{α β:Type}{a:Option α}{f:Nat->α->Option β}{f':α->Option β}(hf: ∀x,Apx (fun k=>f k x) (f' x)):
  Apx (fun k=>a.bind (f k)) (a.bind f'):=(Apx.const a).bind hf
theorem Apx.ite{α:Type}{c:Prop} [Decidable c]{g h:Nat->Option α}{a b:Option α}(hg:Apx g a)(hh:Apx h b):
  Apx (fun k=>if c then g k else h k) (if c then a else b):=by
 by_cases hc:c
 ·simpa[hc]using hg
 ·simpa[hc]using hh
theorem Apx.unique{α:Type}{g:Nat->Option α}{a b:Option α}(h:Apx g a)(h':Apx g b):a=b:=by
 cases ha:a with
 |some x=>obtain⟨k,hk⟩:=h.ex _ ha;exact(h'.hi _ _ hk).symm
 |none=>cases hb:b with
  |none=>rfl
  |some y=>obtain⟨k,hk⟩:=h'.ex _ hb;rw[h.hi _ _ hk]at ha;cases ha
theorem Apx.shift{α:Type}{g:Nat->Option α}{a:Option α}(h:Apx g a):Apx (fun k=>g (k+1)) a:=
 ⟨fun k x hx=>h.up _ _ hx,fun k x hx=>h.hi _ _ hx,fun x hx=>let⟨k,hk⟩:=h.ex _ hx;⟨k,h.up _ _ hk⟩⟩
theorem Apx.two{α:Type}{a b:Option α}(h: ∀x,a=some x->b=some x):Apx (fun k=>if k=0 then a else b) b:=
 ⟨fun k _ _=>by by_cases hk:k=0<;>simp_all,fun k _ _=>by by_cases hk:k=0<;>simp_all,fun _ hx=>⟨1,by simpa using hx⟩⟩
theorem k0h{R:Type}(kd:K0)(x:C){K:Nat->C->Option R}{K':C->Option R}(hK: ∀x,Apx (fun k=>K k x) (K' x)):Apx (fun k=>kd.take x (K k)) (kd.take x K'):=by
 cases kd<;>simp only[K0.take]<;>first |exact hK _ |exact .cbind fun _=>hK _
theorem J0W{R:Type}: ∀(ks:List K0) (xs:List C) {K:Nat->List C->Option R} {K':List C->Option R} (hK: ∀x,Apx (fun k=>K k x) (K' x)),Apx (fun k=>takes ks xs (K k)) (takes ks xs K')
 | [],xs,_,_,hK=>by simp only[takes];exact .ite (hK _) (.const _)
 |k::ks,xs,_,_,hK=>by
  simp only[takes]
  exact .cbind fun x=>k0h k x fun y=>J0W ks _ fun ys=>hK _
theorem z1F{R:Type}(kd:KD)(v:V){K:Nat->V->Option R}{K':V->Option R}(hK: ∀x,Apx (fun k=>K k x) (K' x)):Apx (fun k=>kd.take v (K k)) (kd.take v K'):=by
 cases kd<;>simp only[KD.take]<;>first |exact hK _ |exact .cbind fun _=>k0h _ _ fun _=>hK _ |exact .cbind fun _=>J0W _ _ fun _=>hK _
theorem Y0T{R:Type}(H:Heap)(i:Nat){K:Nat->List C->Option R}{K':List C->Option R}(hK: ∀x,Apx (fun k=>K k x) (K' x)):
  ∀(kds:List K0) (o:Nat),Apx (fun k=>H.lds i o kds (K k)) (H.lds i o kds K')
 | [],o=>hK []
 |kd::kds,o=>by
  simp only[Heap.lds]
  exact .cbind fun x=>k0h kd x fun y=>Y0T H i (fun xs=>hK (y::xs)) kds (o+1)
theorem J0X{R:Type}(e:Env)(x:X){Kl Ko:Nat->Nat->Nat->Option R}{Kl' Ko':Nat->Nat->Option R}(hl: ∀p o,Apx (fun k=>Kl k p o) (Kl' p o))(ho: ∀p o,Apx (fun k=>Ko k p o) (Ko' p o)):
  Apx (fun k=>placeK e x (Kl k) (Ko k)) (placeK e x Kl' Ko'):=by
 cases x with
 |t p=>
  simp only[placeK]
  split
  ·exact hl _ _
  ·exact hl _ _
  ·exact .cbind fun _=>ho _ _
  ·exact .const _
 |c v=>simp only[placeK];exact .cbind fun _=>ho _ _
 |f g=>exact .const _
section
variable{R:Type}{lim:Nat}{call:Nat->CallT}{call':CallT}(hcall: ∀f vs H,Apx (fun k=>call k f vs H) (call' f vs H))
include hcall
theorem w1g(e:Env)(H:Heap)(o:ROp){K:Nat->T->Heap->Option R}{K':T->Heap->Option R}(hK: ∀t H,Apx (fun k=>K k t H) (K' t H)):
  Apx (fun k=>evalOp lim (call k) e H o (K k)) (evalOp lim call' e H o K'):=by
 induction o generalizing K K'
 case chkd o d p ag ks ih=>simp only[evalOp];exact ih fun t H'=>Apx.ite (hK _ _) (Apx.const _)
 all_goals simp only[evalOp]
 all_goals
  repeat' first
  |exact hK _ _
  |exact Apx.const _
  |exact hcall _ _ _
  |refine Apx.ite ?_ ?_
  |refine Apx.cbind fun _=> ?_
  |refine Apx.bind (hcall _ _ _) fun _=> ?_
  |(refine Y0T _ _ ?_ _ _;intro _)
  |(refine k0h _ _ ?_;intro _)
  |(refine z1F _ _ ?_;intro _)
  |refine J0X _ _ (fun _ _=> ?_) (fun _ _=> ?_)
  |split
theorem z0a: ∀(o:Ops) {R:Type} (e:Env) (H:Heap) {K:Nat->Env->Heap->Option R} {K':Env->Heap->Option R} (_: ∀e H,Apx (fun k=>K k e H) (K' e H)),
  Apx (fun k=>runOps lim (call k) o e H (K k)) (runOps lim call' o e H K')
 | .nil,_,e,H,_,_,hK=>hK e H
 | .op d o r,_,e,H,_,_,hK=>by
  simp only[runOps]
  exact w1g hcall e H o fun t H'=>z0a r _ _ hK
 | .lbox n p x r,_,e,H,_,_,hK=>by
  simp only[runOps]
  exact .cbind fun v=> .cbind fun xs=> .ite (z0a r _ _ hK) (.const _)
 | .lnew p z r,_,e,H,_,_,hK=>by
  simp only[runOps]
  exact z0a r _ _ hK
 | .st hp n a x r,_,e,H,_,_,hK=>by
  simp only[runOps]
  exact .cbind fun v=> .cbind fun xs=> .ite (.const _) (J0X _ _ (fun p o=> .ite (.const _) (.cbind fun cs=> .ite (z0a r _ _ hK) (.const _))) (fun i o=> .ite (.const _) (.cbind fun H'=>z0a r _ _ hK)))
 | .logic and c inner keep d r,_,e,H,_,_,hK=>by
  simp only[runOps]
  exact .cbind fun b=> .bind (.ite (z0a inner _ _ fun e' H'=> .const _) (.const _)) fun _=>z0a r _ _ hK
end
section
variable{lim:Nat}{call:Nat->CallT}{call':CallT}{jump:Nat->Nat->Env->Heap->Rs}{jump':Nat->Env->Heap->Rs}{fin:Env->Heap->Rs}
 (hcall: ∀f vs H,Apx (fun k=>call k f vs H) (call' f vs H)) (hjump: ∀l e H,Apx (fun k=>jump k l e H) (jump' l e H))
theorem w0n(hjump: ∀l e H,Apx (fun k=>jump k l e H) (jump' l e H))(j:Option (Nat×List Nat)){K:Nat->KT}{K':KT}(hK: ∀fl e H,Apx (fun k=>K k fl e H) (K' fl e H))(fl:Flow)(e:Env)(H:Heap):
  Apx (fun k=>joinK (jump k) j (K k) fl e H) (joinK jump' j K' fl e H):=by
 cases j with
 |none=>exact hK _ _ _
 |some x=>
  cases fl with
  |normal=>exact hjump _ _ _
  |exit id=>exact hK _ _ _
theorem W0M(hjump: ∀l e H,Apx (fun k=>jump k l e H) (jump' l e H))(l:Nat)(dead:List Nat){K:Nat->KT}{K':KT}(hK: ∀fl e H,Apx (fun k=>K k fl e H) (K' fl e H))(fl:Flow)(e:Env)(H:Heap):
  Apx (fun k=>loopK (jump k) l dead (K k) fl e H) (loopK jump' l dead K' fl e H):=by
 cases fl with
 |normal=>exact hjump _ _ _
 |exit id=>exact hK _ _ _
theorem J0Y(id:Nat){K:Nat->KT}{K':KT}(hK: ∀fl e H,Apx (fun k=>K k fl e H) (K' fl e H))(fl:Flow)(e:Env)(H:Heap):
  Apx (fun k=>blockK id (K k) fl e H) (blockK id K' fl e H):=by
 cases fl with
 |normal=>exact hK _ _ _
 |exit i=>exact Apx.ite (hK _ _ _) (hK _ _ _)
include hcall hjump
theorem j0s: ∀(c:RC) (e:Env) (H:Heap) {K:Nat->KT} {K':KT} (_: ∀fl e H,Apx (fun k=>K k fl e H) (K' fl e H)),
  Apx (fun k=>exec lim (call k) (jump k) fin c e H (K k)) (exec lim call' jump' fin c e H K')
 | .skip,e,H,_,_,hK=>hK _ _ _
 | .ops o,e,H,_,_,hK=>by simp only[exec];exact z0a hcall o e H fun e H=>hK _ _ _
 | .dops _ _ _ o,e,H,_,_,hK=>by simp only[exec];exact .ite (z0a hcall o _ H fun e H=>hK _ _ _) (.const _)
 | .seq a b,e,H,_,_,hK=>by
  simp only[exec]
  refine j0s a e H fun fl e' H'=> ?_
  cases fl with
  |normal=>exact j0s b e' H' hK
  |exit id=>exact hK _ _ _
 | .cond x a b j,e,H,_,_,hK=>by
  simp only[exec]
  exact .cbind fun c=> .ite (j0s a _ _ (w0n hjump j hK)) (j0s b _ _ (w0n hjump j hK))
 | .block id c,e,H,_,_,hK=>by simp only[exec];exact j0s c _ _ (J0Y id hK)
 | .loop l dead c,e,H,_,_,hK=>by simp only[exec];exact hjump _ _ _
 | .exit id,e,H,_,_,hK=>hK _ _ _
 | .ret,e,H,_,_,hK=>by simp only[exec];exact .const _
 | .stuck,e,H,_,_,hK=>by simp only[exec];exact .const _
theorem z0b(l:Nat): ∀(c:RC) {K:Nat->KT} {K':KT} (_: ∀fl e H,Apx (fun k=>K k fl e H) (K' fl e H)),
  (∃(g:Nat->Env->Heap->Rs) (g':Env->Heap->Rs),(∀k,find lim (call k) (jump k) fin l c (K k)=some (g k))/\find lim call' jump' fin l c K'=some g'/\ ∀e H,Apx (fun k=>g k e H) (g' e H))\/
  ((∀k,find lim (call k) (jump k) fin l c (K k)=none)/\find lim call' jump' fin l c K'=none)
 | .skip,_,_,hK=> .inr ⟨fun _=>rfl,rfl⟩
 | .ops o,_,_,hK=> .inr ⟨fun _=>rfl,rfl⟩
 | .dops _ _ _ o,_,_,hK=> .inr ⟨fun _=>rfl,rfl⟩
 | .exit id,_,_,hK=> .inr ⟨fun _=>rfl,rfl⟩
 | .ret,_,_,hK=> .inr ⟨fun _=>rfl,rfl⟩
 | .stuck,_,_,hK=> .inr ⟨fun _=>rfl,rfl⟩
 | .seq a b,K,K',hK=>by
  have ha:=z0b l a (K:=fun k=>seqK (fun e' H'=>exec lim (call k) (jump k) fin b e' H' (K k)) (K k))
   (K':=seqK (fun e' H'=>exec lim call' jump' fin b e' H' K') K')
   (fun fl e H=>by
    cases fl with
    |normal=>exact j0s hcall hjump b e H hK
    |exit id=>exact hK _ _ _)
  simp only[find]
  rcases ha with⟨g,g',h1,h2,h3⟩ |⟨h1,h2⟩
  ·exact .inl ⟨g,g',fun k=>by rw[h1];rfl,by rw[h2];rfl,h3⟩
  ·rcases z0b l b hK with⟨g,g',h3,h4,h5⟩ |⟨h3,h4⟩
   ·exact .inl ⟨g,g',fun k=>by rw[h1,h3];rfl,by rw[h2,h4];rfl,h5⟩
   ·exact .inr ⟨fun k=>by rw[h1,h3];rfl,by rw[h2,h4];rfl⟩
 | .cond x a b j,K,K',hK=>by
  simp only[find]
  by_cases hj:j.map (·.1)=some l
  ·simp only[hj,iT]
   exact .inl ⟨_,_,fun k=>rfl,rfl,fun e H=>hK _ _ _⟩
  ·simp only[hj,iF]
   rcases z0b l a (w0n hjump j hK)with⟨g,g',h1,h2,h3⟩ |⟨h1,h2⟩
   ·exact .inl ⟨g,g',fun k=>by rw[h1];rfl,by rw[h2];rfl,h3⟩
   ·rcases z0b l b (w0n hjump j hK)with⟨g,g',h3,h4,h5⟩ |⟨h3,h4⟩
    ·exact .inl ⟨g,g',fun k=>by rw[h1,h3];rfl,by rw[h2,h4];rfl,h5⟩
    ·exact .inr ⟨fun k=>by rw[h1,h3];rfl,by rw[h2,h4];rfl⟩
 | .block id c,K,K',hK=>by simp only[find];exact z0b l c (J0Y id hK)
 | .loop l' dead c,K,K',hK=>by
  simp only[find]
  by_cases hl:l'=l
  ·simp only[hl,iT]
   exact .inl ⟨_,_,fun k=>rfl,rfl,fun e H=>j0s hcall hjump c _ _ (W0M hjump l dead hK)⟩
  ·simp only[hl,iF]
   exact z0b l c (W0M hjump l' dead hK)
end
theorem W0N(ext:FuncId->Env->Heap->Rs)(prog:FuncId->Option RFunc)(lim:Nat){r:Nat->RunT}{r':RunT}(h: ∀f l e H,Apx (fun k=>r k f l e H) (r' f l e H))(f l:Nat)(e:Env)(H:Heap):
  Apx (fun k=>stepR ext prog lim (r k) f l e H) (stepR ext prog lim r' f l e H):=by
 unfold stepR
 cases prog f with
 |none=>exact .const _
 |some rf=>
  have hc: ∀f vs H,Apx (fun k=>callOf (r k) f vs H) (callOf r' f vs H):=fun f vs H=>h _ _ _ _
  have hK: ∀(fl:Flow) (e:Env) (H:Heap),Apx (fun _:Nat=>endK rf fl e H) (endK rf fl e H):=fun _ _ _=> .const _
  by_cases hl:l=0
  ·simp only[hl,iT]
   exact j0s hc (h f) _ _ _ hK
  ·simp only[hl,iF]
   rcases z0b (lim:=lim) (fin:=finish rf) hc (h f) l rf.body hK with⟨g,g',h1,h2,h3⟩ |⟨h1,h2⟩
   ·rw[h2]
    refine⟨fun k x hx=> ?_,fun k x hx=> ?_,fun x hx=> ?_⟩
    ·simp only[h1]at hx⊢;exact(h3 e H).up k x hx
    ·simp only[h1]at hx;exact(h3 e H).hi k x hx
    ·obtain⟨k,hk⟩:=(h3 e H).ex x hx
     exact⟨k,by simp only[h1];exact hk⟩
   ·rw[h2]
    refine⟨fun k x hx=> ?_,fun k x hx=> ?_,fun x hx=> ?_⟩
    ·simp only[h1]at hx;cases hx
    ·simp only[h1]at hx;cases hx
    ·cases hx
theorem J0a(ext:FuncId->Env->Heap->Rs)(prog:FuncId->Option RFunc)(lim:Nat): ∀(k:Nat) (f l:Nat) (e:Env) (H:Heap) (x:V×Heap),runN ext prog lim k f l e H=some x->runN ext prog lim (k+1) f l e H=some x
 | 0,_,_,_,_,_,h=>by simp[runN]at h
 |k+1,f,l,e,H,x,h=>by
  have h2: ∀f l e H,Apx (fun j=>(if j=0 then runN ext prog lim k else runN ext prog lim (k+1)) f l e H) (runN ext prog lim (k+1) f l e H):=fun f l e H=>by
   have:=Apx.two (J0a ext prog lim k f l e H)
   refine⟨fun j y hy=> ?_,fun j y hy=> ?_,fun y hy=>⟨1,by simpa using hy⟩⟩
   ·have:=this.up j y (by by_cases hj:j=0<;>simp_all)
    by_cases hj:j=0<;>simp_all
   ·exact this.hi j y (by by_cases hj:j=0<;>simp_all)
  have:=(W0N ext prog lim h2 f l e H).hi 0 x (by simpa[runN]using h)
  simpa[runN]using this
theorem w0F(ext:FuncId->Env->Heap->Rs)(prog:FuncId->Option RFunc)(lim:Nat)(f l:Nat)(e:Env)(H:Heap):Apx (fun k=>runN ext prog lim k f l e H) (run ext prog lim f l e H):=by
 have hle: ∀(k m:Nat) x,k<=m->runN ext prog lim k f l e H=some x->runN ext prog lim m f l e H=some x:=by
  intro k m x hkm hx
  obtain⟨j,rfl⟩:=Nat.exists_eq_add_of_le hkm
  clear hkm
  induction j with
  |zero=>exact hx
  |succ j ih=>exact J0a ext prog lim _ _ _ _ _ _ ih
 refine⟨fun k x hx=>J0a ext prog lim k f l e H x hx,fun k x hx=> ?_,fun x hx=> ?_⟩
 ·have he: ∃k,(runN ext prog lim k f l e H).isSome:=⟨k,by simp[hx]⟩
  unfold run
  rw[dif_pos he]
  obtain⟨y,hy⟩:=Option.isSome_iff_exists.1 he.choose_spec
  rw[hy]
  have h1:=hle _ _ _ (Nat.le_max_left k he.choose) hx
  have h2:=hle _ _ _ (Nat.le_max_right k he.choose) hy
  rw[h1]at h2
  exact h2.symm
 ·unfold run at hx
  split at hx
  ·exact⟨_,hx⟩
  ·cases hx
theorem q0f(ext:FuncId->Env->Heap->Rs)(prog:FuncId->Option RFunc)(lim:Nat)(f l:Nat)(e:Env)(H:Heap):run ext prog lim f l e H=stepR ext prog lim (run ext prog lim) f l e H:=by
 have h:=W0N ext prog lim (r:=runN ext prog lim) (w0F ext prog lim) f l e H
 exact(w0F ext prog lim f l e H).shift.unique h
def X.slots:X->List Nat
 | .t p=>[p]
 |_=>[]
def XO.slots:Option X->List Nat
 |some x=>x.slots
 |none=>[]
def Xs.slots:List X->List Nat
 | []=>[]
 |x::xs=>x.slots++Xs.slots xs
def Ps.slots:List (Nat×Nat×X)->List Nat
 | []=>[]
 |(_,_,x)::xs=>x.slots++Ps.slots xs
def ROp.slots:ROp->List Nat
 | .mov x | .box _ x | .ld _ x | .lds _ x | .ldN _ x | .ldL _ _ x | .ldsL _ _ x | .nilck x | .eqN _ _ x | .not x | .neg _ x | .conv _ _ x | .fld _ x | .fldC _ x | .fldA _ _ x
 | .len x | .lenS x | .lenM x | .mkS _ _ x | .clr _ x | .ext _ x _ | .mkI _ x=>x.slots
 | .new _ | .mkM=>[]
 | .build _ ps | .lit _ _ _ ps=>Ps.slots ps
 | .ar _ _ x y | .cmp _ _ x y | .dv _ _ x y | .bit _ _ x y | .sh _ _ _ x y | .eqB _ x y | .eqA _ _ x y | .cmpS _ x y | .catS x y | .idx _ x y | .idxA _ _ x y | .idxS x y | .idxVC _ _ x y | .idxVA _ _ x y
 | .app _ x y | .copy _ x y | .look _ _ _ _ x y | .mdel _ x y | .mm _ _ x y=>x.slots++y.slots
 | .sub _ x l h | .subS x l h=>x.slots++(XO.slots l++XO.slots h)
 | .subM _ x l h m=>x.slots++(XO.slots l++(XO.slots h++XO.slots m))
 | .capN x=>x.slots
 | .appZ _ _ s n=>s.slots++n.slots
 | .mset _ x y z=>x.slots++(y.slots++z.slots)
 | .stH _ x y=>x.slots++y.slots
 | .chkd o d p _ _=>ROp.slots o++[d,p]
 | .mkF _ xs | .call _ _ xs=>Xs.slots xs
 | .callV x _ xs=>x.slots++Xs.slots xs
def Agree(S:List Nat)(e e2:Env):Prop:= ∀p∈S,e2.get p=e.get p/\ ∀q o,e.get p= .laddr q o->e2.get q=e.get q
theorem Agree.left{S S2:List Nat}{e e2:Env}(h:Agree (S++S2) e e2):Agree S e e2:=fun p hp=>h p (List.mem_append_left _ hp)
theorem Agree.right{S S2:List Nat}{e e2:Env}(h:Agree (S++S2) e e2):Agree S2 e e2:=fun p hp=>h p (List.mem_append_right _ hp)
theorem q0O{e e2:Env}: ∀{x:X},Agree x.slots e e2->ev e2 x=ev e x
 | .t p,h=>by simp only[ev];rw[(h p (by simp[X.slots])).1]
 | .c _,_=>rfl
 | .f _,_=>rfl
theorem q0t{e e2:Env}{x:X}(h:Agree x.slots e e2):evC e2 x=evC e x:=by unfold evC;rw[q0O h]
theorem z0t{e e2:Env}{k:IntKind}{x:X}(h:Agree x.slots e e2):evI k e2 x=evI k e x:=by unfold evI;rw[q0t h]
theorem z0u{e e2:Env}{x:X}(h:Agree x.slots e e2):evB e2 x=evB e x:=by unfold evB;rw[q0t h]
theorem w0G{e e2:Env}: ∀{xs:List X},Agree (Xs.slots xs) e e2->evs e2 xs=evs e xs
 | [],_=>rfl
 |x::xs,h=>by simp only[evs];rw[q0O h.left,w0G h.right]
theorem Q0t{e e2:Env}: ∀{xs:List X},Agree (Xs.slots xs) e e2->evCs e2 xs=evCs e xs
 | [],_=>rfl
 |x::xs,h=>by simp only[evCs];rw[q0t h.left,Q0t h.right]
theorem Q0u{e e2:Env}: ∀{x:Option X},Agree (XO.slots x) e e2->evLo e2 x=evLo e x
 |none,_=>rfl
 |some x,h=>by simp only[evLo];rw[q0t h]
theorem k0O{e e2:Env}: ∀{x:Option X},Agree (XO.slots x) e e2->evHi e2 x=evHi e x
 |none,_=>rfl
 |some x,h=>by simp only[evHi];rw[q0t h]
theorem z0V{e e2:Env}: ∀{ps:List (Nat×Nat×X)} {z:List C},Agree (Ps.slots ps) e e2->fillC e2 z ps=fillC e z ps
 | [],_,_=>by simp only[fillC]
 |(o,n,x)::ps,z,h=>by
  simp only[fillC]
  rw[q0O (x:=x) h.left]
  congr 1;funext v;congr 1;funext xs
  rw[z0V (ps:=ps) h.right]
theorem z0S{e e2:Env}{p:Nat}(h:e2.get p=e.get p):locCells e2 p=locCells e p:=by unfold locCells;rw[h]
theorem q0z{R:Type}{e e2:Env}{x:X}{Kl Kl2 Ko:Nat->Nat->Option R}(h:Agree x.slots e e2)(hk: ∀p o,locCells e2 p=locCells e p->Kl2 p o=Kl p o):placeK e2 x Kl2 Ko=placeK e x Kl Ko:=by
 cases x with
 |t p=>
  simp only[placeK]
  have h1:=h p (by simp[X.slots])
  rw[h1.1]
  split
  ·exact hk _ _ (z0S h1.1)
  ·rename_i q o hq
   exact hk _ _ (z0S (h1.2 q o hq))
  ·rfl
  ·rfl
 |c v=>rfl
 |f g=>rfl
section
variable{R:Type}{lim:Nat}{call:CallT}
theorem X0P{e e2:Env}{H:Heap}{d p:Nat}{ag:Bool}{ks:List K0}(h:Agree [d,p] e e2):seen e2 H d p ag ks=seen e H d p ag ks:=by
 unfold seen Heap.rd;rw[(h d (by simp)).1,(h p (by simp)).1]
theorem q0F{e e2:Env}{H:Heap}{o:ROp}{K:T->Heap->Option R}(h:Agree o.slots e e2):evalOp lim call e2 H o K=evalOp lim call e H o K:=by
 induction o generalizing K
 case chkd o d p ag ks ih=>
  simp only[ROp.slots]at h
  simp only[evalOp,X0P h.right]
  exact ih h.left
 all_goals simp only[evalOp,ROp.slots]at h⊢
 case ld=>exact q0z h fun p o hp=>rfl
 case lds=>exact q0z h fun p o hp=>rfl
 case stH=>
  rw[q0O h.right]
  congr 1;funext v;congr 1;funext xs
  rw[q0z h.left fun p o hp=>rfl]
 case ldN=>exact q0z h fun p o hp=>by rw[hp]
 case ldL=>exact q0z h fun p o hp=>by rw[hp]
 case ldsL=>exact q0z h fun p o hp=>by rw[hp]
 case fld=>exact q0z h fun p o hp=>rfl
 case idxA=>
  rw[q0t h.right]
  congr 1;funext i;congr 1;funext m
  rw[q0z h.left fun p o hp=>rfl]
 all_goals first
  |rfl
  |rw[q0O h]
  |rw[q0t h]
  |rw[z0t h]
  |rw[z0u h]
  |rw[w0G h]
  |rw[Q0t h]
  |rw[z0V h]
  |(rw[z0t h.left,z0t h.right];done)
  |(rw[q0t h.left,z0t h.right];done)
  |(rw[z0u h.left,z0u h.right];done)
  |(rw[q0t h.left,q0t h.right];done)
  |(rw[q0t h.left,w0G h.right];done)
  |(rw[q0O h.left,q0O h.right];done)
  |(rw[q0O h.left,q0t h.right];done)
  |(rw[q0t h.left,Q0u h.right.left,k0O h.right.right];done)
  |(rw[q0t h.left,Q0u h.right.left,k0O h.right.right.left,k0O h.right.right.right];done)
  |(rw[q0t h.left,q0t h.right.left,q0O h.right.right];done)
theorem j0b{R:Type}{k:K0}{x:C}{K:C->Option R}{r:R}(h:k.take x K=some r): ∃y,K y=some r/\ ∀{R2:Type} (K2:C->Option R2),k.take x K2=K2 y:=by
 cases k<;>simp only[K0.take]at h⊢
 case c=>exact⟨x,h,fun _=>rfl⟩
 all_goals
  obtain⟨y,hy,h⟩:=oB.1 h
  exact⟨_,h,fun K2=>by rw[hy];rfl⟩
theorem J0Z{R:Type}{r:R}: ∀{ks:List K0} {xs:List C} {K:List C->Option R},takes ks xs K=some r-> ∃ys,K ys=some r/\ ∀{R2:Type} (K2:List C->Option R2),takes ks xs K2=K2 ys
 | [],xs,K,h=>by
  simp only[takes]at h⊢
  split at h
  ·exact⟨[],h,fun _=>by simp_all⟩
  ·cases h
 |k::ks,xs,K,h=>by
  simp only[takes]at h⊢
  obtain⟨x,hx,h⟩:=oB.1 h
  obtain⟨y,h,hn⟩:=j0b h
  obtain⟨ys,h,hn2⟩:=J0Z h
  exact⟨_,h,fun K2=>by rw[hx,oS,hn,hn2]⟩
theorem k0i{R:Type}{k:KD}{v:V}{K:V->Option R}{r:R}(h:k.take v K=some r): ∃u,K u=some r/\ ∀{R2:Type} (K2:V->Option R2),k.take v K2=K2 u:=by
 cases k<;>simp only[KD.take]at h⊢
 case any=>exact⟨_,h,fun _=>rfl⟩
 case one=>
  obtain⟨x,hx,h⟩:=oB.1 h
  obtain⟨y,h,hn⟩:=j0b h
  exact⟨_,h,fun K2=>by rw[hx,oS,hn]⟩
 case agg=>
  obtain⟨x,hx,h⟩:=oB.1 h
  obtain⟨y,h,hn⟩:=J0Z h
  exact⟨_,h,fun K2=>by rw[hx,oS,hn]⟩
theorem Z0Z{R:Type}{H:Heap}{i:Nat}{r:R}: ∀{ks:List K0} {o:Nat} {K:List C->Option R},H.lds i o ks K=some r-> ∃ys,K ys=some r/\ ∀{R2:Type} (K2:List C->Option R2),H.lds i o ks K2=K2 ys
 | [],o,K,h=>⟨[],h,fun _=>rfl⟩
 |k::ks,o,K,h=>by
  simp only[Heap.lds]at h⊢
  obtain⟨x,hx,h⟩:=oB.1 h
  obtain⟨y,h,hn⟩:=j0b h
  obtain⟨ys,h,hn2⟩:=Z0Z h
  exact⟨_,h,fun K2=>by rw[hx,oS,hn,hn2]⟩
def Rooted(e:Env)(q:Nat):Prop:=(∃cs,e.get q= .loc cs)\/ ∃s o,e.get s= .laddr q o
theorem q0o{R:Type}{e:Env}{x:X}{Kl Ko:Nat->Nat->Option R}{r:R}(h:placeK e x Kl Ko=some r):
  (∃p o,Kl p o=some r/\Rooted e p/\ ∀{R2:Type} (Kl2 Ko2:Nat->Nat->Option R2),placeK e x Kl2 Ko2=Kl2 p o)\/(∃i o,Ko i o=some r/\ ∀{R2:Type} (Kl2 Ko2:Nat->Nat->Option R2),placeK e x Kl2 Ko2=Ko2 i o):=by
 cases x with
 |t p=>
  simp only[placeK]at h⊢
  split at h
  ·rename_i cs hp;exact .inl ⟨_,_,h, .inl ⟨_,hp⟩,fun _ _=>by simp only[hp]⟩
  ·rename_i q o hp;exact .inl ⟨_,_,h, .inr ⟨_,_,hp⟩,fun _ _=>by simp only[hp]⟩
  ·rename_i v hp
   obtain⟨a,ha,h⟩:=oB.1 h
   exact .inr ⟨_,_,h,fun _ _=>by simp only[hp,ha,oS]⟩
  ·cases h
 |c v=>
  simp only[placeK]at h⊢
  obtain⟨a,ha,h⟩:=oB.1 h
  exact .inr ⟨_,_,h,fun _ _=>by simp only[ha,oS]⟩
 |f g=>cases h
def ROp.neutral:ROp->Bool
 | .mov _ | .build _ _ | .ldL _ _ _ | .ldsL _ _ _ | .nilck _ | .ar _ _ _ _ | .cmp _ _ _ _ | .dv _ _ _ _ | .bit _ _ _ _ | .sh _ _ _ _ _ | .eqB _ _ _ | .cmpS _ _ _ | .catS _ _ | .eqN _ _ _ | .not _ | .neg _ _ | .conv _ _ _
 | .fld _ _ | .fldC _ _ | .fldA _ _ _ | .idx _ _ _ | .idxA _ _ _ _ | .idxS _ _ | .subS _ _ _ | .sub _ _ none _ | .len _ | .capN _ | .lenS _ | .mkF _ _ | .ext _ _ _ | .mkI _ _ | .mm _ _ _ _=>true
 |_=>false
def ROp.quiet:ROp->Bool
 | .ld _ _ | .lds _ _ | .ldN _ _ | .sub _ _ _ _ | .subM _ _ _ _ _ | .lenM _ | .look _ _ _ _ _ _=>true
 |o=>o.neutral
theorem sub_zero{lim sz:Nat}{s:C}{hi:Option Int}(H H2:Heap):H.sub lim sz s 0 hi=H2.sub lim sz s 0 hi:=by
 cases s<;>simp[Heap.sub]
structure Nat1 (lim:Nat) (call:CallT) (e:Env) (H:Heap) (o:ROp) (t:T) (H':Heap):Prop where
 noloc: ∀cs,t≠ .loc cs
 root: ∀q d,t= .laddr q d->Rooted e q
 all: ∀{R2:Type} (K2:T->Heap->Option R2),evalOp lim call e H o K2=K2 t H'
 neutral:o.neutral=true-> ∀(H2:Heap) {R2:Type} (K2:T->Heap->Option R2),evalOp lim call e H2 o K2=K2 t H2
 quiet:o.quiet=true->H'=H
theorem Nat1.of{lim:Nat}{call:CallT}{e:Env}{H:Heap}{o:ROp}{v:V}(all: ∀(H2:Heap) {R2:Type} (K2:T->Heap->Option R2),evalOp lim call e H2 o K2=K2 (.val v) H2):Nat1 lim call e H o (.val v) H:=
 ⟨fun _ h=>(by cases h),fun _ _ h=>(by cases h),all H,fun _=>all,fun _=>rfl⟩
theorem Nat1.read{lim:Nat}{call:CallT}{e:Env}{H:Heap}{o:ROp}{v:V}(hn:o.neutral=false)(all: ∀{R2:Type} (K2:T->Heap->Option R2),evalOp lim call e H o K2=K2 (.val v) H):Nat1 lim call e H o (.val v) H:=
 ⟨fun _ h=>(by cases h),fun _ _ h=>(by cases h),all,fun h=>(by rw[hn]at h;cases h),fun _=>rfl⟩
theorem Nat1.loud{lim:Nat}{call:CallT}{e:Env}{H H':Heap}{o:ROp}{t:T}(hn:o.quiet=false)(hn2:o.neutral=false)(ht:t= .poison\/ ∃v,t= .val v)(all: ∀{R2:Type} (K2:T->Heap->Option R2),evalOp lim call e H o K2=K2 t H'):Nat1 lim call e H o t H':=
 ⟨fun _ h=>(by rcases ht with rfl |⟨v,rfl⟩<;>cases h),fun _ _ h=>(by rcases ht with rfl |⟨v,rfl⟩<;>cases h),all,fun h=>(by rw[hn2]at h;cases h),fun h=>(by rw[hn]at h;cases h)⟩
set_option maxHeartbeats 1000000 in
theorem q0r{e:Env}{H:Heap}{o:ROp}{K:T->Heap->Option R}{r:R}(h:evalOp lim call e H o K=some r): ∃t H',K t H'=some r/\Nat1 lim call e H o t H':=by
 induction o generalizing K
 case chkd o d p ag ks ih=>
  simp only[evalOp]at h
  obtain⟨t,H',h,hn⟩:=ih h
  split at h
  ·rename_i hs
   exact⟨t,H',h,hn.noloc,hn.root,fun K2=>by simp only[evalOp];rw[hn.all,if_pos hs],fun h=>by simp[ROp.neutral]at h,fun h=>by simp[ROp.quiet,ROp.neutral]at h⟩
  ·cases h
 case stH n a x=>
  simp only[evalOp]at h
  obtain⟨v,hv,h⟩:=oB.1 h
  obtain⟨xs,hxs,h⟩:=oB.1 h
  split at h
  ·cases h
  ·rename_i hb
   rcases q0o h with⟨p,q,h,hr,hn⟩ |⟨i,q,h,hn⟩
   ·cases h
   ·obtain⟨H1,hH1,h⟩:=oB.1 h
    exact⟨_,_,h, .loud rfl rfl (.inl rfl) fun K2=>by simp only[evalOp];rw[hv,oS,hxs,oS,if_neg hb,hn,hH1,oS]⟩
 case ld kd a=>
  simp only[evalOp]at h
  rcases q0o h with⟨p,q,h,hr,hn⟩ |⟨i,q,h,hn⟩
  ·cases h
  ·obtain⟨x,hx,h⟩:=oB.1 h
   obtain⟨y,h,hn2⟩:=j0b h
   exact⟨_,_,h, .read rfl fun K2=>by simp only[evalOp];rw[hn,hx,oS,hn2]⟩
 case lds kds a=>
  simp only[evalOp]at h
  rcases q0o h with⟨p,q,h,hr,hn⟩ |⟨i,q,h,hn⟩
  ·cases h
  ·obtain⟨y,h,hn2⟩:=Z0Z h
   exact⟨_,_,h, .read rfl fun K2=>by simp only[evalOp];rw[hn,hn2]⟩
 case ldN n a=>
  simp only[evalOp]at h
  rcases q0o h with⟨p,q,h,hr,hn⟩ |⟨i,q,h,hn⟩
  ·obtain⟨cs,hcs,h⟩:=oB.1 h
   split at h
   ·rename_i hc;exact⟨_,_,h, .read rfl fun K2=>by simp only[evalOp];rw[hn,hcs,oS,if_pos hc]⟩
   ·cases h
  ·obtain⟨x,hx,h⟩:=oB.1 h
   exact⟨_,_,h, .read rfl fun K2=>by simp only[evalOp];rw[hn,hx,oS]⟩
 case ldL s kd a=>
  simp only[evalOp]at h
  rcases q0o h with⟨p,q,h,hr,hn⟩ |⟨i,q,h,hn⟩
  ·split at h
   rotate_left
   ·cases h
   rename_i hps
   obtain⟨cs,hcs,h⟩:=oB.1 h
   obtain⟨x,hx,h⟩:=oB.1 h
   obtain⟨y,h,hn2⟩:=j0b h
   exact⟨_,_,h, .of fun H2 _ K2=>by simp only[evalOp];rw[hn,if_pos hps,hcs,oS,hx,oS,hn2]⟩
  ·cases h
 case ldsL s kds a=>
  simp only[evalOp]at h
  rcases q0o h with⟨p,q,h,hr,hn⟩ |⟨i,q,h,hn⟩
  ·split at h
   rotate_left
   ·cases h
   rename_i hps
   obtain⟨cs,hcs,h⟩:=oB.1 h
   split at h
   ·rename_i hc;exact⟨_,_,h, .of fun H2 _ K2=>by simp only[evalOp];rw[hn,if_pos hps,hcs,oS,if_pos hc]⟩
   ·cases h
  ·cases h
 case fld d a=>
  simp only[evalOp]at h
  rcases q0o h with⟨p,q,h,hr,hn⟩ |⟨i,q,h,hn⟩
  ·exact⟨_,_,h,⟨fun _ h=>(by cases h),fun _ _ h=>(by cases h;exact hr),fun K2=>(by simp only[evalOp];rw[hn]),fun _ H2 _ K2=>(by simp only[evalOp];rw[hn]),fun _=>rfl⟩⟩
  ·exact⟨_,_,h, .of fun H2 _ K2=>by simp only[evalOp];rw[hn]⟩
 case idxA n sz a i=>
  simp only[evalOp]at h
  obtain⟨c,hc,h⟩:=oB.1 h
  obtain⟨m,hm,h⟩:=oB.1 h
  split at h
  ·rename_i hb
   rcases q0o h with⟨p,q,h,hr,hn⟩ |⟨i,q,h,hn⟩
   ·exact⟨_,_,h,⟨fun _ h=>(by cases h),fun _ _ h=>(by cases h;exact hr),fun K2=>(by simp only[evalOp];rw[hc,oS,hm,oS,if_pos hb,hn]),
     fun _ H2 _ K2=>(by simp only[evalOp];rw[hc,oS,hm,oS,if_pos hb,hn]),fun _=>rfl⟩⟩
   ·exact⟨_,_,h, .of fun H2 _ K2=>by simp only[evalOp];rw[hc,oS,hm,oS,if_pos hb,hn]⟩
  ·cases h
 case nilck x=>
  simp only[evalOp]at h
  obtain⟨c,hc,h⟩:=oB.1 h
  split at h
  ·exact⟨_,_,h, .of fun H2 _ K2=>by simp only[evalOp];rw[hc];rfl⟩
  ·cases h
 case mkI t x=>
  simp only[evalOp]at h
  obtain⟨c,hc,h⟩:=oB.1 h
  split at h
  ·exact⟨_,_,h, .of fun H2 _ K2=>by simp only[evalOp];rw[hc];rfl⟩
  ·exact⟨_,_,h, .of fun H2 _ K2=>by simp only[evalOp];rw[hc];rfl⟩
  ·cases h
 case look kk z ok kd m k=>
  simp only[evalOp]at h
  obtain⟨x1,h1,h⟩:=oB.1 h
  obtain⟨x2,h2,h⟩:=oB.1 h
  obtain⟨x3,h3,h⟩:=oB.1 h
  obtain⟨x4,h4,h⟩:=oB.1 h
  obtain⟨y,h,hn⟩:=k0i h
  exact⟨_,_,h, .read rfl fun K2=>by simp only[evalOp,h1,h2,h3,h4,oS];rw[hn]⟩
 case ext kd x i=>
  simp only[evalOp]at h
  obtain⟨x1,h1,h⟩:=oB.1 h
  obtain⟨x2,h2,h⟩:=oB.1 h
  obtain⟨y,h,hn⟩:=k0i h
  exact⟨_,_,h, .of fun H2 _ K2=>by simp only[evalOp,h1,h2,oS];rw[hn]⟩
 case call f kd xs=>
  simp only[evalOp]at h
  obtain⟨x1,h1,h⟩:=oB.1 h
  obtain⟨x2,h2,h⟩:=oB.1 h
  obtain⟨y,h,hn⟩:=k0i h
  exact⟨_,_,h, .loud rfl rfl (.inr ⟨_,rfl⟩) fun K2=>by simp only[evalOp,h1,h2,oS];rw[hn]⟩
 case callV x kd xs=>
  simp only[evalOp]at h
  obtain⟨x1,h1,h⟩:=oB.1 h
  obtain⟨x2,h2,h⟩:=oB.1 h
  obtain⟨x3,h3,h⟩:=oB.1 h
  obtain⟨x4,h4,h⟩:=oB.1 h
  obtain⟨y,h,hn⟩:=k0i h
  exact⟨_,_,h, .loud rfl rfl (.inr ⟨_,rfl⟩) fun K2=>by simp only[evalOp,h1,h2,h3,h4,oS];rw[hn]⟩
 case sub sz x lo hi=>
  simp only[evalOp]at h
  obtain⟨x1,h1,h⟩:=oB.1 h
  obtain⟨x2,h2,h⟩:=oB.1 h
  obtain⟨x3,h3,h⟩:=oB.1 h
  obtain⟨x4,h4,h9⟩:=oB.1 h
  cases lo with
  |some l0=>exact⟨_,_,h9, .read rfl fun K2=>by simp only[evalOp,h1,h2,h3,h4,oS]⟩
  |none=>
   simp only[evLo,oI]at h2
   subst h2
   exact⟨_,_,h9, .of fun H2 _ K2=>by simp only[evalOp,h1,evLo,h3,sub_zero H2 H,h4,oS]⟩
 case subM sz x lo hi mx=>
  simp only[evalOp]at h
  obtain⟨x1,h1,h⟩:=oB.1 h
  obtain⟨x2,h2,h⟩:=oB.1 h
  obtain⟨x3,h3,h⟩:=oB.1 h
  obtain⟨x5,h5,h⟩:=oB.1 h
  obtain⟨x4,h4,h⟩:=oB.1 h
  exact⟨_,_,h, .read rfl fun K2=>by simp only[evalOp,h1,h2,h3,h5,h4,oS]⟩
 case lenM x=>
  simp only[evalOp]at h
  obtain⟨x1,h1,h⟩:=oB.1 h
  obtain⟨x2,h2,h⟩:=oB.1 h
  exact⟨_,_,h, .read rfl fun K2=>by simp only[evalOp,h1,h2,oS]⟩
 case mm mx k x y=>
  simp only[evalOp]at h
  obtain⟨x1,h1,h⟩:=oB.1 h
  obtain⟨x2,h2,h⟩:=oB.1 h
  exact⟨_,_,h, .of fun H2 _ K2=>by simp only[evalOp,h1,h2,oS]⟩
 case idxVC n kd x i=>
  simp only[evalOp]at h
  obtain⟨x1,h1,h⟩:=oB.1 h
  obtain⟨x2,h2,h⟩:=oB.1 h
  obtain⟨x3,h3,h⟩:=oB.1 h
  split at h
  ·rename_i hb
   obtain⟨x4,h4,h⟩:=oB.1 h
   obtain⟨y,h,hn⟩:=j0b h
   exact⟨_,_,h, .of fun H2 _ K2=>by simp only[evalOp,h1,h2,h3,h4,hb,and_self,iT,oS];rw[hn]⟩
  ·cases h
 case new z=>exact⟨_,_,h, .loud rfl rfl (.inr ⟨_,rfl⟩) fun K2=>rfl⟩
 case mkM=>exact⟨_,_,h, .loud rfl rfl (.inr ⟨_,rfl⟩) fun K2=>rfl⟩
 all_goals
  simp only[evalOp]at h
  obtain⟨x1,h1,h⟩:=oB.1 h
  try (rw[oB]at h;obtain⟨x2,h2,h⟩:=h)
  try (rw[oB]at h;obtain⟨x3,h3,h⟩:=h)
  try (rw[oB]at h;obtain⟨x4,h4,h⟩:=h)
  try (rw[oB]at h;obtain⟨x5,h5,h⟩:=h)
  try (split at h<;>first |cases h |skip)
  try rename_i hb
  try (rw[oB]at h;obtain⟨x6,h6,h⟩:=h)
  first
   |exact⟨_,_,h, .of fun H2 _ K2=>by simp only[evalOp, *,oS];try simp[*]⟩
   |exact⟨_,_,h, .read rfl fun K2=>by simp only[evalOp, *,oS];try simp[*]⟩
   |exact⟨_,_,h, .loud rfl rfl (.inr ⟨_,rfl⟩) fun K2=>by simp only[evalOp, *,oS];try simp[*]⟩
   |exact⟨_,_,h, .loud rfl rfl (.inl rfl) fun K2=>by simp only[evalOp, *,oS];try simp[*]⟩
theorem K0a{e:Env}{H:Heap}{o:ROp}{K:T->Heap->Option R}{r:R}(h:evalOp lim call e H o K=some r): ∃t H',K t H'=some r/\ ∀{R2:Type} (K2:T->Heap->Option R2),evalOp lim call e H o.core K2=K2 t H':=by
 induction o generalizing K
 case chkd o d p ag ks ih=>
  simp only[evalOp]at h
  obtain⟨t,H',h,hn⟩:=ih h
  split at h
  ·exact⟨t,H',h,hn⟩
  ·cases h
 all_goals
  obtain⟨t,H',h,hn⟩:=q0r h
  exact⟨t,H',h,hn.all⟩
end
structure Pl where
 blk:Nat
 sh:Nat
 n:Nat
 sz:Nat
abbrev Phi:=Nat->Option Pl
mutual
inductive CRel (lim:Nat) (φ:Phi):C->Value->Prop
 |junk {x:Value}:x.oneCell'=true->CRel lim φ .junk x
 |bool (b:Bool):CRel lim φ (.bool b) (.bool b)
 |int (k:IntKind) (n:Int):CRel lim φ (.int k n) (.int k n)
 |str (s:ByteArray):CRel lim φ (.str s) (.string s)
 |nilPtr:CRel lim φ .nilPtr (.pointer none)
 |ptr {i o:Nat} {p:Pl}:φ i=some p->CRel lim φ (.ptr i o) (.pointer (some ⟨p.blk,p.sh+o,none⟩))
 |nilSlice:CRel lim φ .nilSlice (.slice none 0 0)
 |slice {i o n off c:Nat} {p:Pl}:φ i=some p->n<=c->(c=0\/off=p.sh+o)->(lim<=i->c=0\/off+c*p.sz<=p.n)->
   CRel lim φ (.slice i o n) (.slice (some ⟨p.blk,off,none⟩) n c)
 |slice0 {i o:Nat} {a:Addr}:i<lim->CRel lim φ (.slice i o 0) (.slice (some a) 0 0)
 |nilMap:CRel lim φ .nilMap (.map none)
 |map {i:Nat} {p:Pl}:φ i=some p->CRel lim φ (.map i) (.map (some p.blk))
 |func {f:FuncId} {a c:List C} {a' c':Array Value}:CsRel lim φ a a'.toList->CsRel lim φ c c'.toList->CRel lim φ (.func f a c) (.func (.func f) a' c')
 |nilFunc:CRel lim φ .nilFunc .nilFunc
 |ifaceC {t:TypeId} {x:C} {v:Value}:CRel lim φ x v->CRel lim φ (.iface t false [x]) (.iface t v)
 |ifaceA {t:TypeId} {cs:List C} {arr:Array Value}:CsRel lim φ cs arr.toList->CRel lim φ (.iface t true cs) (.iface t (.agg arr))
 |nilIface:CRel lim φ .nilIface .nilIface
inductive CsRel (lim:Nat) (φ:Phi):List C->List Value->Prop
 |nil:CsRel lim φ [] []
 |cons {x:C} {v:Value} {xs:List C} {vs:List Value}:CRel lim φ x v->CsRel lim φ xs vs->CsRel lim φ (x::xs) (v::vs)
end
mutual
inductive VRel (lim:Nat) (φ:Phi):V->Value->Prop
 |c {x:C} {v:Value}:CRel lim φ x v->VRel lim φ (.c x) v
 |agg {cs:List C} {arr:Array Value}:CsRel lim φ cs arr.toList->VRel lim φ (.agg cs) (.agg arr)
 |tuple {vs:List V} {arr:Array Value}:VsRel lim φ vs arr.toList->VRel lim φ (.tuple vs) (.tuple arr)
inductive VsRel (lim:Nat) (φ:Phi):List V->List Value->Prop
 |nil:VsRel lim φ [] []
 |cons {x:V} {v:Value} {xs:List V} {vs:List Value}:VRel lim φ x v->VsRel lim φ xs vs->VsRel lim φ (x::xs) (v::vs)
end
variable{lim:Nat}
theorem CRel.one{φ:Phi}{x:C}{v:Value}(h:CRel lim φ x v):v.oneCell'=true:=by cases h<;>first |rfl |assumption
mutual
theorem CRel.mono{φ φ':Phi}(hm: ∀i p,φ i=some p->φ' i=some p): ∀{x:C} {v:Value},CRel lim φ x v->CRel lim φ' x v
 |_,_, .junk h=> .junk h
 |_,_, .bool b=> .bool b
 |_,_, .int k n=> .int k n
 |_,_, .str s=> .str s
 |_,_, .nilPtr=> .nilPtr
 |_,_, .ptr h=> .ptr (hm _ _ h)
 |_,_, .nilSlice=> .nilSlice
 |_,_, .slice h a b c=> .slice (hm _ _ h) a b c
 |_,_, .slice0 h=> .slice0 h
 |_,_, .nilMap=> .nilMap
 |_,_, .map h=> .map (hm _ _ h)
 |_,_, .func a b=> .func (CsRel.mono hm a) (CsRel.mono hm b)
 |_,_, .nilFunc=> .nilFunc
 |_,_, .ifaceC h=> .ifaceC (CRel.mono hm h)
 |_,_, .ifaceA h=> .ifaceA (CsRel.mono hm h)
 |_,_, .nilIface=> .nilIface
theorem CsRel.mono{φ φ':Phi}(hm: ∀i p,φ i=some p->φ' i=some p): ∀{x:List C} {v:List Value},CsRel lim φ x v->CsRel lim φ' x v
 |_,_, .nil=> .nil
 |_,_, .cons a b=> .cons (CRel.mono hm a) (CsRel.mono hm b)
end
mutual
theorem VRel.mono{φ φ':Phi}(hm: ∀i p,φ i=some p->φ' i=some p): ∀{x:V} {v:Value},VRel lim φ x v->VRel lim φ' x v
 |_,_, .c h=> .c (h.mono hm)
 |_,_, .agg h=> .agg (h.mono hm)
 |_,_, .tuple h=> .tuple (VsRel.mono hm h)
theorem VsRel.mono{φ φ':Phi}(hm: ∀i p,φ i=some p->φ' i=some p): ∀{x:List V} {v:List Value},VsRel lim φ x v->VsRel lim φ' x v
 |_,_, .nil=> .nil
 |_,_, .cons a b=> .cons (VRel.mono hm a) (VsRel.mono hm b)
end
section lists
variable{φ:Phi}
theorem CsRel.length{xs:List C}{vs:List Value}(h:CsRel lim φ xs vs):xs.length=vs.length:=by
 induction xs generalizing vs with
 |nil=>cases h;rfl
 |cons x xs ih=>cases h with |cons a b=>simp[ih b]
theorem VsRel.length{xs:List V}{vs:List Value}(h:VsRel lim φ xs vs):xs.length=vs.length:=by
 induction xs generalizing vs with
 |nil=>cases h;rfl
 |cons x xs ih=>cases h with |cons a b=>simp[ih b]
theorem CsRel.get{xs:List C}{vs:List Value}(h:CsRel lim φ xs vs): ∀{j:Nat} {x:C},xs[j]? =some x-> ∃v,vs[j]? =some v/\CRel lim φ x v:=by
 induction xs generalizing vs with
 |nil=>intro j x hx;simp at hx
 |cons y ys ih=>
  cases h with
  |cons a b=>
   intro j x hx
   cases j with
   |zero=>simp at hx;subst hx;exact⟨_,rfl,a⟩
   |succ j=>exact ih b (by simpa using hx)
theorem VsRel.get{xs:List V}{vs:List Value}(h:VsRel lim φ xs vs): ∀{j:Nat} {x:V},xs[j]? =some x-> ∃v,vs[j]? =some v/\VRel lim φ x v:=by
 induction xs generalizing vs with
 |nil=>intro j x hx;simp at hx
 |cons y ys ih=>
  cases h with
  |cons a b=>
   intro j x hx
   cases j with
   |zero=>simp at hx;subst hx;exact⟨_,rfl,a⟩
   |succ j=>exact ih b (by simpa using hx)
theorem CsRel.of_get: ∀{xs:List C} {vs:List Value},xs.length=vs.length->(∀(j:Nat) x v,xs[j]? =some x->vs[j]? =some v->CRel lim φ x v)->CsRel lim φ xs vs
 | [],[],_,_=> .nil
 |x::xs,v::vs,hl,h=> .cons (h 0 x v rfl rfl) (CsRel.of_get (by simpa using hl) fun j a b ha hb=>h (j+1) a b (by simpa using ha) (by simpa using hb))
 | [],_::_,hl,_=>by simp at hl
 |_::_,[],hl,_=>by simp at hl
theorem CsRel.append{xs ys:List C}{vs ws:List Value}(h:CsRel lim φ xs vs)(k:CsRel lim φ ys ws):CsRel lim φ (xs++ys) (vs++ws):=by
 induction xs generalizing vs with
 |nil=>cases h;exact k
 |cons x xs ih=>cases h with |cons a b=>exact .cons a (ih b)
theorem CsRel.take{xs:List C}{vs:List Value}(h:CsRel lim φ xs vs)(n:Nat):CsRel lim φ (xs.take n) (vs.take n):=by
 induction n generalizing xs vs with
 |zero=>simp;exact .nil
 |succ n ih=>
  cases h with
  |nil=>simp;exact .nil
  |cons a b=>simp;exact .cons a (ih b)
theorem CsRel.drop{xs:List C}{vs:List Value}(h:CsRel lim φ xs vs)(n:Nat):CsRel lim φ (xs.drop n) (vs.drop n):=by
 induction n generalizing xs vs with
 |zero=>simpa using h
 |succ n ih=>
  cases h with
  |nil=>simp;exact .nil
  |cons a b=>simpa using ih b
theorem CsRel.set{xs:List C}{vs:List Value}(h:CsRel lim φ xs vs){x:C}{v:Value}(hx:CRel lim φ x v)(n:Nat):CsRel lim φ (xs.set n x) (vs.set n v):=by
 induction n generalizing xs vs with
 |zero=>
  cases h with
  |nil=>exact .nil
  |cons a b=>exact .cons hx b
 |succ n ih=>
  cases h with
  |nil=>exact .nil
  |cons a b=>exact .cons a (ih b)
theorem CsRel.one{xs:List C}{vs:List Value}(h:CsRel lim φ xs vs): ∀v∈vs,v.oneCell'=true:=by
 induction xs generalizing vs with
 |nil=>cases h;simp
 |cons x xs ih=>cases h with
  |cons a b=>
   intro v hv
   rcases mC.1 hv with rfl |hv
   ·exact a.one
   ·exact ih b v hv
theorem CsRel.replicate{x:C}{v:Value}(h:CRel lim φ x v)(n:Nat):CsRel lim φ (List.replicate n x) (List.replicate n v):=by
 induction n with
 |zero=>exact .nil
 |succ n ih=>exact .cons h ih
theorem CsRel.flatten{z:List C}{zs:List Value}(h:CsRel lim φ z zs)(n:Nat):CsRel lim φ (List.replicate n z).flatten (List.replicate n zs).flatten:=by
 induction n with
 |zero=>exact .nil
 |succ n ih=>simp only[List.replicate_succ,List.flatten_cons];exact h.append ih
theorem VsRel.append{xs ys:List V}{vs ws:List Value}(h:VsRel lim φ xs vs)(k:VsRel lim φ ys ws):VsRel lim φ (xs++ys) (vs++ws):=by
 induction xs generalizing vs with
 |nil=>cases h;exact k
 |cons x xs ih=>cases h with |cons a b=>exact .cons a (ih b)
theorem CsRel.vs{xs:List C}{vs:List Value}(h:CsRel lim φ xs vs):VsRel lim φ (xs.map V.c) vs:=by
 induction xs generalizing vs with
 |nil=>cases h;exact .nil
 |cons x xs ih=>cases h with |cons a b=>exact .cons (.c a) (ih b)
theorem VRel.cells{v:V}{x:Value}(h:VRel lim φ v x){xs:List C}(hx:v.cells=some xs):CsRel lim φ xs x.cells.toList:=by
 cases h with
 |c a=>
  simp only[V.cells,oI]at hx;subst hx
  have:=a.one
  cases x<;>simp[Value.cells,Value.oneCell']at this⊢ <;>exact .cons a .nil
 |agg a=>simp only[V.cells,oI]at hx;subst hx;exact a
 |tuple a=>simp[V.cells]at hx
theorem q0G: ∀(xs:List C) (c:List C) (o:Nat),(splice c o xs).length=c.length
 | [],_,_=>rfl
 |x::xs,c,o=>by simp[splice,q0G xs]
end lists
def MRel(lim:Nat)(φ:Phi)(es:List (C×V))(ES:List MapEntry):Prop:=
 es.length=ES.length/\ ∀(j:Nat) (k:C) (v:V),es[j]? =some (k,v)-> ∃e,ES[j]? =some e/\CRel lim φ k e.key/\VRel lim φ v e.val
structure HRel (lim:Nat) (φ:Phi) (H:Heap) (w:World):Prop where
 low:lim<=H.next
 dom: ∀i,H.next<=i->φ i=none
 bound: ∀i p,φ i=some p->p.blk<w.heap.size
 cells: ∀i sz c,H.get i=some (.cells sz c)-> ∃p A el fz,φ i=some p/\w.heap[p.blk]? =some (.cells A el fz)/\A.size=p.n/\p.sh+c.length<=p.n/\
  (lim<=i->p.sz=sz/\fz=(0,0))/\ ∀(j:Nat) x,c[j]? =some x-> ∃v,A[p.sh+j]? =some v/\CRel lim φ x v
 maps: ∀i es,H.get i=some (.map es)-> ∃p ES clock,φ i=some p/\w.heap[p.blk]? =some (.map ES clock)/\MRel lim φ es ES.toList/\ ∀e∈ES.toList,e.born<clock
 inj: ∀i j p q,lim<=j->H.get i≠none->H.get j≠none->φ i=some p->φ j=some q->p.blk=q.blk->i=j
structure Ext (lim:Nat) (φ:Phi) (w:World) (φ':Phi) (w':World):Prop where
 mono: ∀i p,φ i=some p->φ' i=some p
 fresh: ∀i p,φ' i=some p->φ i=some p\/(lim<=i/\(w.heap.size<=p.blk\/ ∃j q,lim<=j/\φ j=some q/\q.blk=p.blk))
 size:w.heap.size<=w'.heap.size
 same: ∀b,b<w.heap.size->(∀j q,lim<=j->φ j=some q->q.blk≠b)->w'.heap[b]? =w.heap[b]?
 os:w'.os=w.os
 tape:w'.tape=w.tape
 output:w'.output=w.output
 froz: ∀a,w'.frozen? a=w.frozen? a
theorem Ext.refl(φ:Phi)(w:World):Ext lim φ w φ w:=⟨fun _ _ h=>h,fun _ _ h=> .inl h,nR _,fun _ _ _=>rfl,rfl,rfl,rfl,fun _=>rfl⟩
theorem Ext.trans{φ φ' φ'':Phi}{w w' w'':World}(h:Ext lim φ w φ' w')(k:Ext lim φ' w' φ'' w''):Ext lim φ w φ'' w'':=by
 refine⟨fun i p hp=>k.mono _ _ (h.mono _ _ hp),fun i p hp=> ?_,nT h.size k.size,fun b hb hn=> ?_,k.os.trans h.os,k.tape.trans h.tape,k.output.trans h.output,fun a=>(k.froz a).trans (h.froz a)⟩
 ·rcases k.fresh i p hp with hp |⟨hl,hs |⟨j,q,hj,hq,e⟩⟩
  ·exact h.fresh i p hp
  ·exact .inr ⟨hl, .inl (nT h.size hs)⟩
  ·rcases h.fresh j q hq with hq |⟨hl',hs |⟨j',q',hj',hq',e'⟩⟩
   ·exact .inr ⟨hl, .inr ⟨j,q,hj,hq,e⟩⟩
   ·exact .inr ⟨hl, .inl (e▸hs)⟩
   ·exact .inr ⟨hl, .inr ⟨j',q',hj',hq',e'.trans e⟩⟩
 ·rw[k.same b (nL hb h.size) ?_,h.same b hb hn]
  intro j q hj hq e
  rcases h.fresh j q hq with hq |⟨_,hs |⟨j',q',hj',hq',e'⟩⟩
  ·exact hn j q hj hq e
  ·omega
  ·exact hn j' q' hj' hq' (e'.trans e)
theorem Ext.drew{φ φ':Phi}{w w':World}(h:Ext lim φ w φ' w'):Ext lim φ w φ' w'.drew:=⟨h.mono,h.fresh,h.size,h.same,h.os,h.tape,h.output,h.froz⟩
theorem HRel.drew{φ:Phi}{H:Heap}{w:World}(h:HRel lim φ H w):HRel lim φ H w.drew:=⟨h.low,h.dom,h.bound,h.cells,h.maps,h.inj⟩
def Phi.add(φ:Phi)(i:Nat)(p:Pl):Phi:=fun j=>if j=i then some p else φ j
theorem Phi.add_same(φ:Phi)(i:Nat)(p:Pl):φ.add i p i=some p:=by simp[Phi.add]
theorem Phi.add_mono{φ:Phi}{i:Nat}(p:Pl)(h:φ i=none): ∀j q,φ j=some q->φ.add i p j=some q:=by
 intro j q hq
 by_cases e:j=i
 ·subst e;rw[h]at hq;cases hq
 ·simpa[Phi.add,e]using hq
theorem MRel.mono{φ φ':Phi}(hm: ∀i p,φ i=some p->φ' i=some p){es:List (C×V)}{ES:List MapEntry}(h:MRel lim φ es ES):MRel lim φ' es ES:=
 ⟨h.1,fun j k v hj=>let⟨e,h1,h2,h3⟩:=h.2 j k v hj;⟨e,h1,h2.mono hm,h3.mono hm⟩⟩
theorem j0D(w:World)(c:Array Value)(t:TypeId)(a:Addr):(w.alloc (.cells c t)).frozen? a=w.frozen? a:=by
 by_cases h:a.block=w.heap.size
 ·have e1:(w.alloc (.cells c t)).heap[a.block]? =some (.cells c t (0,0)):=by rw[h];exact heap_alloc_new _ _
  have e2:w.heap[a.block]? =none:=by rw[h];simp
  simp[World.frozen?,e1,e2]
 ·have e1:(w.alloc (.cells c t)).heap[a.block]? =w.heap[a.block]? :=by
   show(w.heap.push _)[a.block]? =_
   rw[Array.getElem?_push,if_neg h]
  simp only[World.frozen?,e1]
theorem w0l(w:World)(es:Array MapEntry)(clock:Nat)(a:Addr):(w.alloc (.map es clock)).frozen? a=w.frozen? a:=by
 by_cases h:a.block=w.heap.size
 ·have e1:(w.alloc (.map es clock)).heap[a.block]? =some (.map es clock):=by rw[h];exact heap_alloc_new _ _
  have e2:w.heap[a.block]? =none:=by rw[h];simp
  simp[World.frozen?,e1,e2]
 ·have e1:(w.alloc (.map es clock)).heap[a.block]? =w.heap[a.block]? :=by
   show(w.heap.push _)[a.block]? =_
   rw[Array.getElem?_push,if_neg h]
  simp only[World.frozen?,e1]
theorem HRel.alloc{φ:Phi}{H:Heap}{w:World}(h:HRel lim φ H w)(o:Obj)(O:Go.Obj)(n sz:Nat)
  (hc: ∀sz' c,o= .cells sz' c-> ∃A el,O= .cells A el (0,0)/\A.size=n/\sz=sz'/\c.length<=n/\ ∀(j:Nat) x,c[j]? =some x-> ∃v,A[j]? =some v/\CRel lim φ x v)
  (hm: ∀es,o= .map es-> ∃ES clock,O= .map ES clock/\MRel lim φ es ES.toList/\ ∀e∈ES.toList,e.born<clock):
  HRel lim (φ.add H.next ⟨w.heap.size,0,n,sz⟩) (H.alloc o) (w.alloc O)/\Ext lim φ w (φ.add H.next ⟨w.heap.size,0,n,sz⟩) (w.alloc O):=by
 have hmono:=Phi.add_mono (φ:=φ) ⟨w.heap.size,0,n,sz⟩ (h.dom H.next (nR _))
 refine⟨⟨?_, ?_, ?_, ?_, ?_, ?_⟩,⟨hmono, ?_, ?_, ?_,rfl,rfl,rfl, ?_⟩⟩
 ·show lim<=H.next+1;have:=h.low;omega
 ·intro i hi
  have:H.next+1<=i:=hi
  have e:i≠H.next:=by omega
  simp only[Phi.add,e,iF]
  exact h.dom i (by omega)
 ·intro i p hp
  by_cases e:i=H.next
  ·simp only[Phi.add,e,iT,oI]at hp;subst hp;simp
  ·simp only[Phi.add,e,iF]at hp
   have:=h.bound i p hp
   simp;omega
 ·intro i sz' c hg
  by_cases e:i=H.next
  ·subst e
   simp only[Heap.alloc,iT,oI]at hg
   obtain⟨A,el,rfl,h1,h2,h3,h4⟩:=hc _ _ hg
   refine⟨_,A,el,(0,0),Phi.add_same _ _ _,heap_alloc_new _ _,h1,by simpa using h3,fun _=>⟨h2,rfl⟩,fun j x hj=> ?_⟩
   obtain⟨v,hv,hr⟩:=h4 j x hj
   exact⟨v,by simpa using hv,hr.mono hmono⟩
  ·simp only[Heap.alloc,e,iF]at hg
   obtain⟨p,A,el,fz,h1,h2,h3,h4,h5,h6⟩:=h.cells i _ _ hg
   refine⟨p,A,el,fz,hmono _ _ h1,by rw[heap_alloc_old _ _ _ (h.bound _ _ h1)];exact h2,h3,h4,h5,fun j x hj=> ?_⟩
   obtain⟨v,hv,hr⟩:=h6 j x hj
   exact⟨v,hv,hr.mono hmono⟩
 ·intro i es hg
  by_cases e:i=H.next
  ·subst e
   simp only[Heap.alloc,iT,oI]at hg
   obtain⟨ES,clock,rfl,h1,h2⟩:=hm _ hg
   exact⟨_,ES,clock,Phi.add_same _ _ _,heap_alloc_new _ _,h1.mono hmono,h2⟩
  ·simp only[Heap.alloc,e,iF]at hg
   obtain⟨p,ES,clock,h1,h2,h3,h4⟩:=h.maps i _ hg
   exact⟨p,ES,clock,hmono _ _ h1,by rw[heap_alloc_old _ _ _ (h.bound _ _ h1)];exact h2,h3.mono hmono,h4⟩
 ·intro i j p q hlj hi hj hp hq e
  by_cases e1:i=H.next<;>by_cases e2:j=H.next
  ·rw[e1,e2]
  ·simp only[Phi.add,e1,e2,iT,iF,oI]at hp hq;subst hp
   have:=h.bound _ _ hq;simp only at e;omega
  ·simp only[Phi.add,e1,e2,iT,iF,oI]at hp hq;subst hq
   have:=h.bound _ _ hp;simp only at e;omega
  ·simp only[Phi.add,e1,e2,iF]at hp hq
   simp only[Heap.alloc,e1,e2,iF]at hi hj
   exact h.inj i j p q hlj hi hj hp hq e
 ·intro i p hp
  by_cases e:i=H.next
  ·simp only[Phi.add,e,iT,oI]at hp;subst hp
   exact .inr ⟨by rw[e];exact h.low, .inl (nR _)⟩
  ·simp only[Phi.add,e,iF]at hp;exact .inl hp
 ·simp
 ·intro b hb _;exact heap_alloc_old _ _ _ hb
 ·cases o with
  |cells sz' c=>obtain⟨A,el,rfl,_⟩:=hc sz' c rfl;exact j0D w A el
  |map es=>obtain⟨ES,clock,rfl,_⟩:=hm es rfl;exact w0l w ES clock
theorem HRel.alloc_cells{φ:Phi}{H:Heap}{w:World}(h:HRel lim φ H w)(sz:Nat)(c:List C)(A:Array Value)(el:TypeId)(hA:CsRel lim φ c A.toList):
  HRel lim (φ.add H.next ⟨w.heap.size,0,A.size,sz⟩) (H.alloc (.cells sz c)) (w.alloc (.cells A el))/\Ext lim φ w (φ.add H.next ⟨w.heap.size,0,A.size,sz⟩) (w.alloc (.cells A el)):=by
 refine h.alloc _ _ _ _ (fun sz' c' e=> ?_) (fun es e=>by cases e)
 cases e
 refine⟨A,el,rfl,rfl,rfl,by rw[hA.length];simp,fun j x hj=> ?_⟩
 obtain⟨v,hv,hr⟩:=hA.get hj
 exact⟨v,by simpa using hv,hr⟩
theorem HRel.set{φ:Phi}{H:Heap}{w:World}{i sz:Nat}{c:List C}(h:HRel lim φ H w)(hg:H.get i=some (.cells sz c))(hl:lim<=i){o:Nat}(ho:o<c.length){x:C}{v:Value}
  (hx:CRel lim φ x v) {p:Pl} (hp:φ i=some p):
  HRel lim φ (H.put i (.cells sz (c.set o x))) (w.setCell ⟨p.blk,p.sh+o,none⟩ v)/\Ext lim φ w φ (w.setCell ⟨p.blk,p.sh+o,none⟩ v)/\
   (w.cell? ⟨p.blk,p.sh+o,none⟩).isSome=true/\w.frozen? ⟨p.blk,p.sh+o,none⟩=false:=by
 obtain⟨p',A,el,fz,h1,h2,h3,h4,h5,h6⟩:=h.cells i _ _ hg
 rw[hp]at h1;cases h1
 obtain⟨hsz,rfl⟩:=h5 hl
 have hnew:(w.setCell ⟨p.blk,p.sh+o,none⟩ v).heap[p.blk]? =some (.cells (A.setIfInBounds (p.sh+o) v) el (0,0)):=heap_setCell_same w p.blk (p.sh+o) A el v h2
 have hoth: ∀b,b≠p.blk->(w.setCell ⟨p.blk,p.sh+o,none⟩ v).heap[b]? =w.heap[b]? :=fun b hb=>heap_setCell_other w _ b v hb
 refine⟨⟨h.low,h.dom,fun j q hq=>by simpa using h.bound j q hq, ?_, ?_, ?_⟩,⟨fun _ _ hq=>hq,fun _ _ hq=> .inl hq,by simp, ?_,rfl,rfl,rfl,fun a=>by simp⟩, ?_, ?_⟩
 ·intro j sz' c' hj
  by_cases e:j=i
  ·subst e
   simp only[Heap.put,iT,oI,Obj.cells.injEq]at hj
   obtain⟨rfl,rfl⟩:=hj
   refine⟨p,_,el,(0,0),hp,hnew,by simpa using h3,by simpa using h4,fun _=>⟨hsz,rfl⟩,fun k y hk=> ?_⟩
   rw[List.getElem?_set]at hk
   by_cases ek:o=k
   ·subst ek
    rw[if_pos rfl,if_pos ho]at hk
    cases hk
    exact⟨v,by rw[Array.getElem?_setIfInBounds];simp;omega,hx⟩
   ·rw[if_neg ek]at hk
    obtain⟨u,hu,hr⟩:=h6 k y hk
    exact⟨u,by rw[Array.getElem?_setIfInBounds,if_neg (by omega)];exact hu,hr⟩
  ·simp only[Heap.put,e,iF]at hj
   obtain⟨q,B,el',fz',g1,g2,g3,g4,g5,g6⟩:=h.cells j _ _ hj
   have hne:q.blk≠p.blk:=fun eb=>e (h.inj j i q p hl (by rw[hj];simp) (by rw[hg];simp) g1 hp eb)
   exact⟨q,B,el',fz',g1,by rw[hoth _ hne];exact g2,g3,g4,g5,g6⟩
 ·intro j es hj
  by_cases e:j=i
  ·subst e;simp[Heap.put]at hj
  ·simp only[Heap.put,e,iF]at hj
   obtain⟨q,ES,clock,g1,g2,g3⟩:=h.maps j _ hj
   have hne:q.blk≠p.blk:=fun eb=>e (h.inj j i q p hl (by rw[hj];simp) (by rw[hg];simp) g1 hp eb)
   exact⟨q,ES,clock,g1,by rw[hoth _ hne];exact g2,g3⟩
 ·intro a b q r hlb ha hb hq hr e
  refine h.inj a b q r hlb ?_ ?_ hq hr e
  ·by_cases ea:a=i
   ·rw[ea,hg];simp
   ·simpa[Heap.put,ea]using ha
  ·by_cases eb:b=i
   ·rw[eb,hg];simp
   ·simpa[Heap.put,eb]using hb
 ·intro b hb hn
  exact hoth b fun e=>hn i p hl hp e.symm
 ·rw[cell_of_row w _ _ _ _ _ h2]
  simp;omega
 ·exact frozen_of_row w _ _ _ _ h2
theorem Heap.put_put(H:Heap)(i:Nat)(a b:Obj):(H.put i a).put i b=H.put i b:=by
 simp only[Heap.put,Heap.mk.injEq,true_and];funext j;by_cases e:j=i<;>simp[e]
theorem Heap.put_get(H:Heap)(i:Nat)(a:Obj):(H.put i a).get i=some a:=by simp[Heap.put]
theorem Heap.put_self(H:Heap)(i:Nat)(a:Obj)(h:H.get i=some a):H.put i a=H:=by
 cases H;simp only[Heap.put,Heap.mk.injEq,true_and];funext j;by_cases e:j=i
 ·subst e;simp only[iT];exact h.symm
 ·simp[e]
theorem HRel.sets{P:Program}{φ:Phi}{i sz:Nat}(hl:lim<=i){p:Pl}(hp:φ i=some p): ∀(xs:List C) (vs:List Value) (c:List C) (H:Heap) (w:World) (o k:Nat) (a:Addr),
  HRel lim φ H w->H.get i=some (.cells sz c)->o+xs.length<=c.length->CsRel lim φ xs vs->a.spot=none->a.block=p.blk->a.off+k=p.sh+o->
  ∃w',(storeCells a vs k).run P w= .ok () w'/\HRel lim φ (H.put i (.cells sz (splice c o xs))) w'/\Ext lim φ w φ w'
 | [],_,c,H,w,o,k,a,h,hg,ho,hx,hs,hb,hk=>by
  cases hx
  exact⟨w,rfl,by rw[splice,Heap.put_self _ _ _ hg];exact h, .refl _ _⟩
 |x::xs,_,c,H,w,o,k,a,h,hg,ho,hx,hs,hb,hk=>by
  cases hx with
  | @cons _ v _ vs hv hvs=>
   have hlen:o<c.length:=by simp at ho;omega
   obtain⟨h1,h2,h3,h4⟩:=h.set hg hl hlen hv hp
   have hadd:a.add k=⟨p.blk,p.sh+o,none⟩:=by
    obtain⟨ab,ao,as⟩:=a
    simp only at hs hb hk
    subst hs hb
    rw[Addr.add_lit]
    simp[hk]
   obtain⟨w',hw',h5,h6⟩:=HRel.sets hl hp xs vs (c.set o x) _ _ (o+1) (k+1) a h1 (Heap.put_get _ _ _) (by simp at ho⊢;omega) hvs hs hb (by omega)
   refine⟨w', ?_,by rw[splice];rwa [Heap.put_put]at h5,h2.trans h6⟩
   obtain⟨u,hu⟩:=Option.isSome_iff_exists.1 h3
   simp only[storeCells,Sem.run_bind]
   rw[hadd,run_store P w _ v .plain hv.one,hu]
   simp only[h4,bF,iF,Result.andThen_ok]
   exact hw'
theorem HRel.st{P:Program}{φ:Phi}{H H':Heap}{w:World}{i o:Nat}{xs:List C}{vs:List Value}(h:HRel lim φ H w)(hst:H.st lim i o xs=some H')(hx:CsRel lim φ xs vs){p:Pl}(hp:φ i=some p):
  ∃w',(storeCells ⟨p.blk,p.sh+o,none⟩ vs).run P w= .ok () w'/\HRel lim φ H' w'/\Ext lim φ w φ w':=by
 unfold Heap.st at hst
 split at hst
 ·rename_i sz c hg
  split at hst
  ·rename_i hc
   cases hst
   exact HRel.sets hc.1 hp xs vs c H w o 0 _ h hg hc.2 hx rfl rfl rfl
  ·cases hst
 ·cases hst
theorem HRel.ld{φ:Phi}{H:Heap}{w:World}{i o:Nat}{x:C}(h:HRel lim φ H w)(hld:H.ld i o=some x){p:Pl}(hp:φ i=some p):
  ∃v,w.cell? ⟨p.blk,p.sh+o,none⟩=some v/\CRel lim φ x v:=by
 unfold Heap.ld at hld
 split at hld
 ·rename_i sz c hg
  obtain⟨p',A,el,fz,h1,h2,h3,h4,h5,h6⟩:=h.cells i _ _ hg
  rw[hp]at h1;cases h1
  obtain⟨v,hv,hr⟩:=h6 o x hld
  exact⟨v,by rw[cell_of_row w _ _ _ _ _ h2];exact hv,hr⟩
 ·cases hld
theorem HRel.ldN{P:Program}{φ:Phi}{H:Heap}{w:World}{i o n:Nat}{xs:List C}(h:HRel lim φ H w)(hld:H.ldN i o n=some xs){p:Pl}(hp:φ i=some p):
  ∃A:Array Value,(loadCells ⟨p.blk,p.sh+o,none⟩ n).run P w= .ok A w/\CsRel lim φ xs A.toList/\xs.length=n:=by
 unfold Heap.ldN at hld
 split at hld
 ·rename_i sz c hg
  split at hld
  ·rename_i hn
   cases hld
   obtain⟨p',A,el,fz,h1,h2,h3,h4,h5,h6⟩:=h.cells i _ _ hg
   rw[hp]at h1;cases h1
   have hcell: ∀j,j<n->w.cell? ((⟨p.blk,p.sh+o,none⟩:Addr).add j)=some (A.getD (p.sh+o+j) default):=by
    intro j hj
    rw[Addr.add_lit,cell_of_row w _ _ _ _ _ h2]
    have:p.sh+o+j<A.size:=by omega
    simp[this]
   refine⟨_,run_loadCells w _ n _ hcell,CsRel.of_get (by simp;omega) fun j x v hx hv=> ?_,by simp;omega⟩
   have hj:j<n:=by
    have:=(gE.1 hx).1
    simp at this;omega
   rw[List.getElem?_take_of_lt hj,List.getElem?_drop]at hx
   obtain⟨u,hu,hr⟩:=h6 _ _ hx
   simp[hj]at hv
   subst hv
   have e:p.sh+o+j=p.sh+(o+j):=by omega
   rw[e,hu]
   exact hr
  ·cases hld
 ·cases hld
variable{lim:Nat}{P:Program}
theorem k0j{t:TypeId}{i:TypeInfo}(h:P.info? t=some i)(w:World):(typeInfo t).run P w= .ok i w:=by
 simp[typeInfo,h]
theorem q0A{t:TypeId}{i:TypeInfo}(h:P.info? t=some i)(w:World):(sizeOf t).run P w= .ok i.size w:=by
 simp[sizeOf,k0j h]
theorem q0P{t:TypeId}{i:TypeInfo}{z:Value}(h:P.info? t=some i)(hz:i.zero=some z)(w:World):(zeroValue t).run P w= .ok z w:=by
 simp[zeroValue,k0j h,hz]
theorem HRel.cellsOf{φ:Phi}{H:Heap}{w:World}(h:HRel lim φ H w){sz:Nat}{x:C}{v:Value}(hx:CRel lim φ x v){xs:List C}(hc:H.cellsOf sz x=some xs){n:Nat}(hn:x.len=some n):
  ∃A:Array Value,(Builtin.lenOf v).run P w= .ok n w/\(Builtin.firstCells sz n v).run P w= .ok A w/\CsRel lim φ xs A.toList/\xs.length=n*sz:=by
 cases hx<;>simp only[Heap.cellsOf,C.len,oI,reduceCtorEq]at hc hn
 ·subst hc hn
  exact⟨#[],by simp[Builtin.lenOf],by simp[Builtin.firstCells], .nil,by simp⟩
 ·rename_i i o m off c p hp h1 h2 h3
  subst hn
  rcases h2 with rfl |rfl
  ·have:m=0:=by omega
   subst this
   have hxs:xs=[]:=by
    unfold Heap.ldN at hc
    split at hc
    ·split at hc
     ·cases hc;simp
     ·cases hc
    ·cases hc
   subst hxs
   exact⟨#[],by simp[Builtin.lenOf],by simp[Builtin.firstCells,loadCells,loadCellsFrom], .nil,by simp⟩
  ·obtain⟨A,hA,hr,hl⟩:=h.ldN (P:=P) hc hp
   exact⟨A,by simp[Builtin.lenOf],by simpa[Builtin.firstCells]using hA,hr,hl⟩
 ·subst hn
  have hxs:xs=[]:=by
   unfold Heap.ldN at hc
   split at hc
   ·split at hc
    ·cases hc;simp
    ·cases hc
   ·cases hc
  subst hxs
  exact⟨#[],by simp[Builtin.lenOf],by simp[Builtin.firstCells,loadCells,loadCellsFrom], .nil,by simp⟩
theorem HRel.firstOf{φ:Phi}{H:Heap}{w:World}(h:HRel lim φ H w){sz n k:Nat}{x:C}{v:Value}(hx:CRel lim φ x v){xs:List C}(hc:H.cellsOf sz x=some xs)(hn:x.len=some n)(hk:k<=n):
  ∃A:Array Value,(Builtin.firstCells sz k v).run P w= .ok A w/\CsRel lim φ (xs.take (k*sz)) A.toList:=by
 cases hx<;>simp only[Heap.cellsOf,C.len,oI,reduceCtorEq]at hc hn
 ·subst hc hn
  exact⟨#[],by simp[Builtin.firstCells],by simp;exact .nil⟩
 ·rename_i i o m off c p hp h1 h2 h3
  subst hn
  rcases h2 with rfl |rfl
  ·have:m=0:=by omega
   subst this
   have:k=0:=by omega
   subst this
   exact⟨#[],by simp[Builtin.firstCells,loadCells,loadCellsFrom],by simp;exact .nil⟩
  ·have hkm:k*sz<=m*sz:=Nat.mul_le_mul_right _ hk
   have:H.ldN i o (k*sz)=some (xs.take (k*sz)):=by
    unfold Heap.ldN at hc⊢
    split at hc
    ·rename_i sz' c' hg
     split at hc
     ·rename_i hh
      cases hc
      rw[if_pos (by omega),List.take_take]
      congr 2
      omega
     ·cases hc
    ·cases hc
   obtain⟨A,hA,hr,hl⟩:=h.ldN (P:=P) this hp
   exact⟨A,by simpa[Builtin.firstCells]using hA,hr⟩
 ·subst hn
  have:k=0:=by omega
  subst this
  exact⟨#[],by simp[Builtin.firstCells,loadCells,loadCellsFrom],by simp;exact .nil⟩
theorem HRel.grow{φ:Phi}{H:Heap}{w:World}{i sz:Nat}{c:List C}(h:HRel lim φ H w)(hg:H.get i=some (.cells sz c))(hl:lim<=i){x:C}{v:Value}
  (hx:CRel lim φ x v) {p:Pl} (hp:φ i=some p) (ho:p.sh+c.length<p.n):
  HRel lim φ (H.put i (.cells sz (c++[x]))) (w.setCell ⟨p.blk,p.sh+c.length,none⟩ v)/\Ext lim φ w φ (w.setCell ⟨p.blk,p.sh+c.length,none⟩ v)/\
   (w.cell? ⟨p.blk,p.sh+c.length,none⟩).isSome=true/\w.frozen? ⟨p.blk,p.sh+c.length,none⟩=false:=by
 obtain⟨p',A,el,fz,h1,h2,h3,h4,h5,h6⟩:=h.cells i _ _ hg
 rw[hp]at h1;cases h1
 obtain⟨hsz,rfl⟩:=h5 hl
 have hnew:(w.setCell ⟨p.blk,p.sh+c.length,none⟩ v).heap[p.blk]? =some (.cells (A.setIfInBounds (p.sh+c.length) v) el (0,0)):=heap_setCell_same w p.blk (p.sh+c.length) A el v h2
 have hoth: ∀b,b≠p.blk->(w.setCell ⟨p.blk,p.sh+c.length,none⟩ v).heap[b]? =w.heap[b]? :=fun b hb=>heap_setCell_other w _ b v hb
 refine⟨⟨h.low,h.dom,fun j q hq=>by simpa using h.bound j q hq, ?_, ?_, ?_⟩,⟨fun _ _ hq=>hq,fun _ _ hq=> .inl hq,by simp, ?_,rfl,rfl,rfl,fun a=>by simp⟩, ?_, ?_⟩
 ·intro j sz' c' hj
  by_cases e:j=i
  ·subst e
   simp only[Heap.put,iT,oI,Obj.cells.injEq]at hj
   obtain⟨rfl,rfl⟩:=hj
   refine⟨p,_,el,(0,0),hp,hnew,by simpa using h3,by simp;omega,fun _=>⟨hsz,rfl⟩,fun k y hk=> ?_⟩
   by_cases ek:k=c.length
   ·subst ek
    rw[List.getElem?_append_right (nR _)]at hk
    simp at hk;subst hk
    exact⟨v,by rw[Array.getElem?_setIfInBounds];simp;omega,hx⟩
   ·have hlt:k<c.length:=by
     have:=(gE.1 hk).1
     simp at this;omega
    rw[List.getElem?_append_left hlt]at hk
    obtain⟨u,hu,hr⟩:=h6 k y hk
    exact⟨u,by rw[Array.getElem?_setIfInBounds,if_neg (by omega)];exact hu,hr⟩
  ·simp only[Heap.put,e,iF]at hj
   obtain⟨q,B,el',fz',g1,g2,g3,g4,g5,g6⟩:=h.cells j _ _ hj
   have hne:q.blk≠p.blk:=fun eb=>e (h.inj j i q p hl (by rw[hj];simp) (by rw[hg];simp) g1 hp eb)
   exact⟨q,B,el',fz',g1,by rw[hoth _ hne];exact g2,g3,g4,g5,g6⟩
 ·intro j es hj
  by_cases e:j=i
  ·subst e;simp[Heap.put]at hj
  ·simp only[Heap.put,e,iF]at hj
   obtain⟨q,ES,clock,g1,g2,g3⟩:=h.maps j _ hj
   have hne:q.blk≠p.blk:=fun eb=>e (h.inj j i q p hl (by rw[hj];simp) (by rw[hg];simp) g1 hp eb)
   exact⟨q,ES,clock,g1,by rw[hoth _ hne];exact g2,g3⟩
 ·intro a b q r hlb ha hb hq hr e
  refine h.inj a b q r hlb ?_ ?_ hq hr e
  ·by_cases ea:a=i
   ·rw[ea,hg];simp
   ·simpa[Heap.put,ea]using ha
  ·by_cases eb:b=i
   ·rw[eb,hg];simp
   ·simpa[Heap.put,eb]using hb
 ·intro b hb hn
  exact hoth b fun e=>hn i p hl hp e.symm
 ·rw[cell_of_row w _ _ _ _ _ h2]
  simp;omega
 ·exact frozen_of_row w _ _ _ _ h2
theorem HRel.grows{φ:Phi}{i sz:Nat}(hl:lim<=i){p:Pl}(hp:φ i=some p): ∀(xs:List C) (vs:List Value) (c:List C) (H:Heap) (w:World) (k:Nat) (a:Addr),
  HRel lim φ H w->H.get i=some (.cells sz c)->p.sh+c.length+xs.length<=p.n->CsRel lim φ xs vs->a.spot=none->a.block=p.blk->a.off+k=p.sh+c.length->
  ∃w',(storeCells a vs k).run P w= .ok () w'/\HRel lim φ (H.put i (.cells sz (c++xs))) w'/\Ext lim φ w φ w'
 | [],_,c,H,w,k,a,h,hg,ho,hx,hs,hb,hk=>by
  cases hx
  exact⟨w,rfl,by rw[List.append_nil,Heap.put_self _ _ _ hg];exact h, .refl _ _⟩
 |x::xs,_,c,H,w,k,a,h,hg,ho,hx,hs,hb,hk=>by
  cases hx with
  | @cons _ v _ vs hv hvs=>
   simp only[List.length_cons]at ho
   obtain⟨h1,h2,h3,h4⟩:=h.grow hg hl hv hp (by omega)
   have hadd:a.add k=⟨p.blk,p.sh+c.length,none⟩:=by
    obtain⟨ab,ao,as⟩:=a
    simp only at hs hb hk
    subst hs hb
    rw[Addr.add_lit]
    simp[hk]
   obtain⟨w',hw',h5,h6⟩:=HRel.grows hl hp xs vs (c++[x]) _ _ (k+1) a h1 (Heap.put_get _ _ _) (by simp;omega) hvs hs hb (by simp;omega)
   refine⟨w', ?_,by rw[Heap.put_put]at h5;simpa using h5,h2.trans h6⟩
   obtain⟨u,hu⟩:=Option.isSome_iff_exists.1 h3
   simp only[storeCells,Sem.run_bind]
   rw[hadd,run_store P w _ v .plain hv.one,hu]
   simp only[h4,bF,iF,Result.andThen_ok]
   exact hw'
theorem HRel.rename{φ:Phi}{H:Heap}{w:World}{i sz d n:Nat}{cs:List C}(h:HRel lim φ H w)(hg:H.get i=some (.cells sz cs))(hl:lim<=i){p:Pl}(hp:φ i=some p)
  (ho:d+n<=cs.length):
  HRel lim (φ.add H.next ⟨p.blk,p.sh+d,p.n,sz⟩) ((H.kill i).alloc (.cells sz ((cs.drop d).take n))) w/\Ext lim φ w (φ.add H.next ⟨p.blk,p.sh+d,p.n,sz⟩) w:=by
 obtain⟨p',A,el,fz,h1,h2,h3,h4,h5,h6⟩:=h.cells i _ _ hg
 rw[hp]at h1;cases h1
 obtain⟨hsz,rfl⟩:=h5 hl
 have hnone:=h.dom H.next (nR _)
 have hmono:=Phi.add_mono (φ:=φ) ⟨p.blk,p.sh+d,p.n,sz⟩ hnone
 refine⟨⟨by show lim<=H.next+1;have:=h.low;omega, ?_, ?_, ?_, ?_, ?_⟩,⟨hmono,fun j q hq=> ?_,nR _,fun _ _ _=>rfl,rfl,rfl,rfl,fun _=>rfl⟩⟩
 ·intro j hj
  have:H.next+1<=j:=hj
  have e:j≠H.next:=by omega
  simp only[Phi.add,e,iF]
  exact h.dom j (by omega)
 ·intro j q hq
  by_cases e:j=H.next
  ·simp only[Phi.add,e,iT,oI]at hq;subst hq;exact h.bound i p hp
  ·simp only[Phi.add,e,iF]at hq;exact h.bound j q hq
 ·intro j sz' c' hj
  by_cases e:j=H.next
  ·subst e
   rw[show((H.kill i).alloc (.cells sz ((cs.drop d).take n))).get H.next=some (.cells sz ((cs.drop d).take n))from by simp[Heap.alloc,Heap.kill]]at hj
   simp only[oI,Obj.cells.injEq]at hj
   obtain⟨rfl,rfl⟩:=hj
   refine⟨_,A,el,(0,0),Phi.add_same _ _ _,h2,h3,by simp;omega,fun _=>⟨rfl,rfl⟩,fun a y hy=> ?_⟩
   have ha:a<n:=by
    have:=(gE.1 hy).1
    simp at this;omega
   rw[List.getElem?_take_of_lt ha,List.getElem?_drop]at hy
   obtain⟨u,hu,hru⟩:=h6 _ y hy
   exact⟨u,by simp only;rw[show p.sh+d+a=p.sh+(d+a) by omega];exact hu,hru.mono hmono⟩
  ·simp only[Heap.alloc,Heap.kill,e,iF]at hj
   split at hj
   ·cases hj
   ·obtain⟨q,D,el2,fz2,f1,f2,f3,f4,f5,f6⟩:=h.cells j _ _ hj
    exact⟨q,D,el2,fz2,hmono _ _ f1,f2,f3,f4,f5,fun a y hy=>let⟨u,hu,hru⟩:=f6 a y hy;⟨u,hu,hru.mono hmono⟩⟩
 ·intro j es hj
  by_cases e:j=H.next
  ·subst e;simp[Heap.alloc,Heap.kill]at hj
  ·simp only[Heap.alloc,Heap.kill,e,iF]at hj
   split at hj
   ·cases hj
   ·obtain⟨q,ES,clock,f1,f2,f3,f4⟩:=h.maps j es hj
    exact⟨q,ES,clock,hmono _ _ f1,f2,f3.mono hmono,f4⟩
 ·intro a b q r hlb ha hb hq hr e
  by_cases ea:a=H.next<;>by_cases eb:b=H.next
  ·rw[ea,eb]
  ·simp only[Phi.add,ea,eb,iT,iF,oI]at hq hr;subst hq
   simp only[Heap.alloc,Heap.kill,eb,iF]at hb
   by_cases ebi:b=i
   ·simp[ebi]at hb
   ·simp only[ebi,iF]at hb
    exact absurd (h.inj b i r p hl hb (by rw[hg];simp) hr hp e.symm) ebi
  ·simp only[Phi.add,ea,eb,iT,iF,oI]at hq hr;subst hr
   simp only[Heap.alloc,Heap.kill,ea,iF]at ha
   by_cases eai:a=i
   ·simp[eai]at ha
   ·simp only[eai,iF]at ha
    exact absurd (h.inj a i q p hl ha (by rw[hg];simp) hq hp e) eai
  ·simp only[Phi.add,ea,eb,iF]at hq hr
   simp only[Heap.alloc,Heap.kill,ea,eb,iF]at ha hb
   by_cases eai:a=i
   ·simp[eai]at ha
   ·by_cases ebi:b=i
    ·simp[ebi]at hb
    ·simp only[eai,ebi,iF]at ha hb
     exact h.inj a b q r hlb ha hb hq hr e
 ·by_cases e:j=H.next
  ·simp only[Phi.add,e,iT,oI]at hq;subst hq
   exact .inr ⟨by rw[e];exact h.low, .inr ⟨i,p,hl,hp,rfl⟩⟩
  ·simp only[Phi.add,e,iF]at hq;exact .inl hq
theorem Heap.alloc_put(H:Heap)(a b:Obj):(H.alloc a).put H.next b=H.alloc b:=by
 simp only[Heap.put,Heap.alloc,Heap.mk.injEq,true_and];funext j;by_cases e:j=H.next<;>simp[e]
theorem HRel.kill{φ:Phi}{H:Heap}{w:World}(h:HRel lim φ H w)(i:Nat):HRel lim φ (H.kill i) w:=by
 refine⟨h.low,h.dom,h.bound,fun j sz c hj=> ?_,fun j es hj=> ?_,fun a b p q hlb ha hb hp hq e=> ?_⟩
 ·simp only[Heap.kill]at hj;split at hj
  ·cases hj
  ·exact h.cells j _ _ hj
 ·simp only[Heap.kill]at hj;split at hj
  ·cases hj
  ·exact h.maps j _ hj
 ·refine h.inj a b p q hlb ?_ ?_ hp hq e
  ·intro hn;apply ha;simp only[Heap.kill];split<;>simp_all
  ·intro hn;apply hb;simp only[Heap.kill];split<;>simp_all
theorem HRel.app{φ:Phi}{H H':Heap}{w:World}(h:HRel lim φ H w){sz n:Nat}{s x r:C}{sv xv:Value}(hs:CRel lim φ s sv)(hx:CRel lim φ x xv){xs:List C}(hxs:H.cellsOf sz x=some xs)(hxl:x.len=some n)
  (happ:H.app lim sz s xs n=some (r,H')) (ts:Array TypeId) (ty sT xT e xe:TypeId) (i:TypeInfo) (z:Value) (h0:ts[0]? =some sT) (h1:ts[1]? =some xT) (hu:P.underlying sT=some (.slice e))
  (hxu:P.underlying xT=some (.slice xe)) (hi:P.info? e=some i) (hz:i.zero=some z) (hsz:i.size=sz) (hzs:z.cells.size=i.size) (hb0:0<i.bytes) (hb:i.bytes<=2048):
  ∃rv w' φ',(Builtin.append_ ts ty #[sv,xv]).run P w= .ok rv w'/\HRel lim φ' H' w'/\Ext lim φ w φ' w'/\CRel lim φ' r rv:=by
 obtain⟨A,hA1,hA2,hA3,hA4⟩:=h.cellsOf (P:=P) hx hxs hxl
 obtain⟨B,hB1,hB2,hB3,hB4⟩:=h.drew.cellsOf (P:=P) hx hxs hxl
 subst hsz
 have hgrow: ∀(sLen sCap:Nat) (base:Option Addr) (old:Array Value) (os:List C),sCap<sLen+n->roomy (sLen+n)->(Builtin.firstCells i.size sLen (.slice base sLen sCap)).run P w.drew= .ok old w.drew->
   CsRel lim φ os old.toList->os.length=sLen*i.size->
   ∃rv w' φ',(Builtin.append_ ts ty #[.slice base sLen sCap,xv]).run P w= .ok rv w'/\HRel lim φ' (H.alloc (.cells i.size (os++xs))) w'/\Ext lim φ w φ' w'/\CRel lim φ' (.slice H.next 0 (sLen+n)) rv:=by
  intro sLen sCap base old os hcap hroom hold hos hol
  have hnc:Builtin.nextslicecap (sLen+n) sCap*i.bytes<=281474976710656:=by
   refine growslice_fits hcap ?_
   have:(sLen+n)*i.bytes<=2 ^ 36*2048:=Nat.mul_le_mul hroom hb
   exact nT this (by decide)
  have hnb: ¬(i.bytes=0):=by omega
  have hnot: ¬(281474976710656<Builtin.nextslicecap (sLen+n) sCap*i.bytes):=by omega
  generalize hnc':(sLen+n)+(w.tape w.drawn (.appendCap (sLen+n) sCap e)) % (2 ^ 63 - (sLen+n))=nc
  have hge:sLen+n<=nc:=by omega
  have hrun:(Builtin.append_ ts ty #[.slice base sLen sCap,xv]).run P w= .ok (.slice (some ⟨w.heap.size,0,none⟩) (sLen+n) nc) (w.drew.alloc (.cells (old++B++Builtin.zeroCells z.cells (nc - (sLen+n))) e)):=by
   have hcut:(Question.appendCap (sLen+n) sCap e).cut (w.tape w.drawn (.appendCap (sLen+n) sCap e))=nc:=hnc'
   have hf:(Question.appendCap (sLen+n) sCap e).forced=false:=rfl
   have hcap2: ¬(sLen+n<=sCap):=by omega
   simp[Builtin.append_,h0,h1,run_underlying hu,run_underlying hxu,q0A hi,k0j hi,q0P hi hz,hA1,hcap2,hnb,hnot,hf,hcut,hold,hB2,newRow]
  have hcs:CsRel lim φ (os++xs) (old++B).toList:=by simpa using hos.append hB3
  obtain⟨hr,hext⟩:=h.drew.alloc (.cells i.size (os++xs)) (.cells (old++B++Builtin.zeroCells z.cells (nc - (sLen+n))) e) (old++B++Builtin.zeroCells z.cells (nc - (sLen+n))).size i.size
   (fun sz' c' e'=>by
    cases e'
    have hl:=hcs.length
    refine⟨_,e,rfl,rfl,rfl,by simp at hl⊢;omega,fun j x hj=> ?_⟩
    obtain⟨v,hv,hr⟩:=hcs.get hj
    refine⟨v, ?_,hr⟩
    rw[Array.getElem?_append_left (by have:=(gE.1 hv).1;simpa using this)]
    rw[<-Array.getElem?_toList];exact hv)
   (fun es e'=>by cases e')
  refine⟨_,_,_,hrun,hr,(Ext.refl φ w).drew.trans hext, .slice (Phi.add_same _ _ _) hge (.inr rfl) (fun _=> .inr ?_)⟩
  have hl:=hcs.length
  have hsz2:(old++B++Builtin.zeroCells z.cells (nc - (sLen+n))).size=(sLen+n)*i.size+(nc - (sLen+n))*i.size:=by
   simp[Builtin.zeroCells,hzs]at hl⊢
   rw[Nat.add_mul];omega
  simp only[hsz2,<-Nat.add_mul]
  rw[Nat.add_sub_cancel' hge]
  omega
 cases hs<;>simp only[Heap.app,reduceCtorEq]at happ
 ·
  split at happ
  ·rename_i hn
   cases happ
   subst hn
   refine⟨.slice none 0 0,w,φ, ?_,h, .refl _ _, .nilSlice⟩
   simp[Builtin.append_,h0,h1,run_underlying hu,run_underlying hxu,q0A hi,hA1,hA2]
  ·rename_i hn
   split at happ
   ·rename_i hroom
    cases happ
    simpa using hgrow 0 0 none #[] [] (by omega) (by simpa using hroom) (by simp[Builtin.firstCells]) .nil (by simp)
   ·cases happ
 ·rename_i id o m off c p hp hmc hoff hfit
  split at happ
  ·rename_i sz' cs hg
   split at happ
   ·rename_i hc
    obtain⟨hl,rfl,hle,hroom⟩:=hc
    cases happ
    by_cases hcap:m+n<=c
    ·
     by_cases hc0:c=0
     ·have hm0:m=0:=by omega
      have hn0:n=0:=by omega
      subst hc0 hm0 hn0
      have hx0:xs=[]:=List.eq_nil_of_length_eq_zero (by simpa using hA4)
      subst hx0
      have hA0:A= #[]:=by have:=hA3.length;simp at this;exact Array.eq_empty_of_size_eq_zero (by omega)
      subst hA0
      obtain⟨hr,hext⟩:=h.rename (d:=0) (n:=0) hg hl hp (by omega)
      refine⟨.slice (some ⟨p.blk,off,none⟩) 0 0,w,_, ?_,by simpa using hr,hext, .slice (p:=⟨p.blk,p.sh+0,p.n,i.size⟩) (Phi.add_same _ _ _) (nR _) (.inl rfl) (fun _=> .inl rfl)⟩
      simp[Builtin.append_,h0,h1,run_underlying hu,run_underlying hxu,q0A hi,hA1,hA2,storeCells]
     ·have hoff:=hoff.resolve_left hc0
      subst hoff
      have hfit:=(hfit hl).resolve_left hc0
      obtain⟨q,AA,el,fz,g1,g2,g3,g4,g5,g6⟩:=h.cells id _ _ hg
      rw[hp]at g1;cases g1
      obtain⟨hsz, -⟩:=g5 hl
      rw[hsz]at hfit
      have hmn:(m+n)*i.size<=c*i.size:=Nat.mul_le_mul_right _ hcap
      rw[Nat.add_mul]at hmn
      obtain⟨hr,hext⟩:=h.rename (d:=o) (n:=m*i.size) hg hl hp (by omega)
      have hlen1:((cs.drop o).take (m*i.size)).length=m*i.size:=by simp;omega
      obtain⟨w',hw',hr2,hext2⟩:=HRel.grows (P:=P) (sz:=i.size) h.low (Phi.add_same _ _ _) xs A.toList ((cs.drop o).take (m*i.size)) _ _ 0 ⟨p.blk,p.sh+o+m*i.size,none⟩ hr (by simp[Heap.alloc,Heap.kill])
       (by rw[hlen1];simp only;omega) (hA3.mono (Phi.add_mono _ (h.dom _ (nR _)))) rfl rfl (by rw[hlen1];simp only;omega)
      have halloc:((H.kill id).alloc (.cells i.size ((cs.drop o).take (m*i.size)))).put H.next (.cells i.size ((cs.drop o).take (m*i.size)++xs))=(H.kill id).alloc (.cells i.size ((cs.drop o).take (m*i.size)++xs)):=Heap.alloc_put (H.kill id) _ _
      rw[halloc]at hr2
      refine⟨.slice (some ⟨p.blk,p.sh+o,none⟩) (m+n) c,w',_, ?_,hr2,hext.trans hext2, .slice (p:=⟨p.blk,p.sh+o,p.n,i.size⟩) (Phi.add_same _ _ _) hcap (.inr rfl) (fun _=> .inr hfit)⟩
      simp[Builtin.append_,h0,h1,run_underlying hu,run_underlying hxu,q0A hi,hA1,hA2,hcap,Addr.add_lit,hw']
    ·
     have hslen:H.cellsOf i.size (.slice id o m)=some ((cs.drop o).take (m*i.size)):=by
      simp only[Heap.cellsOf,Heap.ldN,hg];rw[if_pos hle]
     obtain⟨D,hD1,hD2,hD3,hD4⟩:=h.drew.cellsOf (P:=P) (.slice hp hmc hoff hfit) hslen rfl
     obtain⟨rv,w',φ',a1,a2,a3,a4⟩:=hgrow m c (some ⟨p.blk,off,none⟩) D _ (by omega) hroom hD2 hD3 hD4
     refine⟨rv,w',φ',a1, ?_,a3,a4⟩
     have hne:id≠H.next:=fun e'=>by rw[e',h.dom _ (nR _)]at hp;cases hp
     have:(H.kill id).alloc (.cells i.size ((cs.drop o).take (m*i.size)++xs))=(H.alloc (.cells i.size ((cs.drop o).take (m*i.size)++xs))).kill id:=by
      simp only[Heap.kill,Heap.alloc,Heap.mk.injEq,true_and];funext j
      by_cases e2:j=id
      ·subst e2;simp[hne]
      ·simp[e2]
     rw[this]
     exact a2.kill id
   ·cases happ
  ·cases happ
 ·split at happ
  ·split at happ
   ·omega
   ·cases happ
  ·cases happ
theorem HRel.copy{φ:Phi}{H H':Heap}{w:World}(h:HRel lim φ H w){sz n r:Nat}{d x:C}{dv xv:Value}(hd:CRel lim φ d dv)(hx:CRel lim φ x xv){xs:List C}(hxs:H.cellsOf sz x=some xs)(hxl:x.len=some n)
  (hcopy:H.copy lim sz d xs n=some (r,H')) (ts:Array TypeId) (ty dT e:TypeId) (i:TypeInfo) (h0:ts[0]? =some dT) (hu:P.underlying dT=some (.slice e)) (hi:P.info? e=some i) (hsz:i.size=sz):
  ∃w',(Builtin.copy_ ts ty #[dv,xv]).run P w= .ok (.int .i64 r) w'/\HRel lim φ H' w'/\Ext lim φ w φ w':=by
 obtain⟨A0,hA1,hA2,hA3,hA4⟩:=h.cellsOf (P:=P) hx hxs hxl
 subst hsz
 cases hd<;>simp only[Heap.copy,reduceCtorEq]at hcopy
 ·cases hcopy
  obtain⟨A,hA,hr⟩:=h.firstOf (P:=P) (k:=0) hx hxs hxl (Nat.zero_le _)
  refine⟨w, ?_,h, .refl _ _⟩
  simp[Builtin.copy_,h0,run_underlying hu,q0A hi,hA1,Nat.min_zero,hA,goInt]
 ·rename_i id o m off c p hp hmc hoff hfit
  obtain⟨A,hA,hr⟩:=h.firstOf (P:=P) (k:=Nat.min n m) hx hxs hxl (Nat.min_le_left _ _)
  cases hst:H.st lim id o (xs.take (Nat.min n m*i.size))with
  |none=>rw[hst]at hcopy;cases hcopy
  |some H1=>
   rw[hst]at hcopy
   simp only[Option.map_some,oI,Prod.mk.injEq]at hcopy
   obtain⟨rfl,rfl⟩:=hcopy
   by_cases hc0:c=0
   ·have hm0:m=0:=by omega
    subst hc0 hm0
    have hmin:Nat.min n 0=0:=Nat.min_zero n
    rw[hmin]at hA hr hst
    simp only[Nat.zero_mul,List.take_zero]at hr hst
    have hAe:A.toList=[]:=by cases hh:A.toList with
     |nil=>rfl
     |cons a b=>rw[hh]at hr;cases hr
    obtain⟨w',hw',hr2,he2⟩:=h.st (P:=P) hst .nil hp
    simp only[storeCells,Sem.run_pure,Result.ok.injEq,true_and]at hw'
    subst hw'
    refine⟨w, ?_,hr2,he2⟩
    simp[Builtin.copy_,h0,run_underlying hu,q0A hi,hA1,hmin,hA,hAe,storeCells,goInt]
   ·have hoff:=hoff.resolve_left hc0
    subst hoff
    obtain⟨w',hw',hr2,he2⟩:=h.st (P:=P) hst hr hp
    refine⟨w', ?_,hr2,he2⟩
    simp[Builtin.copy_,h0,run_underlying hu,q0A hi,hA1,hA,hw',goInt]
 ·rename_i id o a hlt
  exfalso
  cases hst:H.st lim id o (xs.take (Nat.min n 0*i.size))with
  |none=>rw[hst]at hcopy;cases hcopy
  |some H1=>
   unfold Heap.st at hst
   split at hst
   ·split at hst
    ·omega
    ·cases hst
   ·cases hst
theorem j0t(zs:List Value)(d:Value): ∀(n:Nat),(List.range (n*zs.length)).map (fun j=>(zs[j % zs.length]?).getD d)=(List.replicate n zs).flatten
 | 0=>by simp
 |n+1=>by
  have ih:=j0t zs d n
  rw[Nat.add_mul,Nat.one_mul,List.range_add,List.map_append,ih,List.replicate_succ',List.flatten_append]
  congr 1
  simp only[List.map_map,List.flatten_cons,List.flatten_nil,List.append_nil]
  refine List.ext_getElem (by simp) fun j h1 h2=> ?_
  simp only[List.length_map,List.length_range]at h1
  simp[Function.comp,Nat.mul_add_mod_of_lt h1,Nat.add_mod,Nat.mod_eq_of_lt h1,h1]
theorem k0k{φ:Phi}{z:List C}{zs:Array Value}(h:CsRel lim φ z zs.toList)(n:Nat):CsRel lim φ (List.replicate n z).flatten (Builtin.zeroCells zs n).toList:=by
 have:=h.flatten n
 rw[<-j0t zs.toList default n]at this
 have e:(Builtin.zeroCells zs n).toList=(List.range (n*zs.toList.length)).map fun j=>(zs.toList[j % zs.toList.length]?).getD default:=by
  simp only[Builtin.zeroCells,Array.toList_map,Array.toList_range,Array.length_toList]
  refine List.map_congr_left fun j _=> ?_
  simp[getElem!_def]
  cases zs[j % zs.size]? <;>rfl
 rw[e];exact this
theorem HRel.clr{φ:Phi}{H H':Heap}{w:World}(h:HRel lim φ H w){z:List C}{s:C}{sv:Value}(hs:CRel lim φ s sv)(hc:H.clr lim z s=some H')(ts:Array TypeId)(ty sT e:TypeId)(i:TypeInfo)(zv:Value)(h0:ts[0]? =some sT)(hu:P.underlying sT=some (.slice e))
  (hi:P.info? e=some i) (hz:i.zero=some zv) (hzr:CsRel lim φ z zv.cells.toList): ∃w',(Builtin.clear_ ts ty #[sv]).run P w= .ok (.tuple #[]) w'/\HRel lim φ H' w'/\Ext lim φ w φ w':=by
 cases hs<;>simp only[Heap.clr,reduceCtorEq]at hc
 ·cases hc
  exact⟨w,by simp[Builtin.clear_,h0,run_underlying hu],h, .refl _ _⟩
 ·rename_i id o n off c p hp hmc hoff hfit
  split at hc
  ·rename_i hn;cases hc;subst hn
   exact⟨w,by simp[Builtin.clear_,h0,run_underlying hu],h, .refl _ _⟩
  ·rename_i hn
   have hoff:=hoff.resolve_left (by omega)
   subst hoff
   obtain⟨w',hw',hr,he⟩:=h.st (P:=P) hc (k0k hzr n) hp
   refine⟨w', ?_,hr,he⟩
   obtain⟨m,rfl⟩: ∃m,n=m+1:=⟨n - 1,by omega⟩
   simp[Builtin.clear_,h0,run_underlying hu,q0P hi hz,hw']
 ·simp only[iT,oI]at hc
  subst hc
  exact⟨w,by simp[Builtin.clear_,h0,run_underlying hu],h, .refl _ _⟩
theorem HRel.mkS{φ:Phi}{H:Heap}{w:World}(h:HRel lim φ H w){sz:Nat}{z:List C}{n:Int}(h0:0<=n)(hn:n<=2 ^ 36)(t e:TypeId)(i:TypeInfo)(zv:Value)(hu:P.underlying t=some (.slice e))(hi:P.info? e=some i)
  (hz:i.zero=some zv) (hsz:i.size=sz) (hzr:CsRel lim φ z zv.cells.toList) (hzl:zv.cells.size=i.size) (hb:i.bytes<=2048):
  ∃rv w' φ',(Instr.makeSlice t (.int .i64 n) (.int .i64 n)).run P w= .ok rv w'/\HRel lim φ' (H.alloc (.cells sz (List.replicate n.toNat z).flatten)) w'/\Ext lim φ w φ' w'/\CRel lim φ' (.slice H.next 0 n.toNat) rv:=by
 subst hsz
 obtain⟨n,rfl⟩:=iZ h0
 have hn':n<=2 ^ 36:=by omega
 have hbn:i.bytes*n<=2 ^ 47:=nT (Nat.mul_le_mul hb hn') (by decide)
 have hrel:CsRel lim φ (List.replicate n z).flatten (madeCells zv.cells (n*i.size)).toList:=by
  have:=hzr.flatten n
  rw[<-j0t zv.cells.toList default n]at this
  have e:(madeCells zv.cells (n*i.size)).toList=(List.range (n*zv.cells.toList.length)).map fun j=>(zv.cells.toList[j % zv.cells.toList.length]?).getD default:=by
   simp only[madeCells,Array.toList_map,Array.toList_range,Array.length_toList,hzl]
   refine List.map_congr_left fun j _=> ?_
   rw[getElem!_def,Array.getElem?_toList]
   cases zv.cells[j % i.size]? <;>rfl
  rw[e];exact this
 obtain⟨hr,hext⟩:=h.alloc_cells i.size _ _ e hrel
 have hlt:(i.bytes:Int)*(n:Int)<=281474976710656:=by
  have:((i.bytes*n:Nat):Int)<=2 ^ 47:=by exact_mod_cast hbn
  push_cast at this
  omega
 have hs:(madeCells zv.cells (n*i.size)).size=n*i.size:=size_madeCells _ _
 refine⟨_,_,_,run_make w t e i zv hu hi hz .i64 .i64 n n h0 (Int.le_refl _) hlt (by omega),by simpa using hr,hext, .slice (Phi.add_same _ _ _) (by simp) (.inr rfl) (fun _=> .inr (by simp[hs]))⟩
theorem HRel.appZ{φ:Phi}{H:Heap}{w:World}(h:HRel lim φ H w){sz:Nat}{z:List C}{n:Int}(h0:0<n)(hn:n<=2 ^ 36)(ts:Array TypeId)(ty sT xT e:TypeId)(k:IntKind)(i:TypeInfo)(zv:Value)(h1:ts[0]? =some sT)(h2:ts[1]? =some xT)
  (hu:P.underlying sT=some (.slice e)) (hxu:P.underlying xT=some (.int k)) (hi:P.info? e=some i) (hz:i.zero=some zv) (hsz:i.size=sz) (hzr:CsRel lim φ z zv.cells.toList) (hzl:zv.cells.size=i.size) (hb0:0<i.bytes) (hb:i.bytes<=2048):
  ∃rv w' φ',(Builtin.append_ ts ty #[.slice none 0 0, .int .i64 n]).run P w= .ok rv w'/\HRel lim φ' (H.alloc (.cells sz (List.replicate n.toNat z).flatten)) w'/\Ext lim φ w φ' w'/\CRel lim φ' (.slice H.next 0 n.toNat) rv:=by
 subst hsz
 obtain⟨n,rfl⟩:=iZ (Int.le_of_lt h0)
 have hpos:0<n:=by omega
 have hn':n<=2 ^ 36:=by omega
 have hwrap:IntKind.wrap .i64 (n:Int)=n:=IntWalk.i64_in n ⟨by omega,by omega⟩
 have hnc:Builtin.nextslicecap (0+n) 0*i.bytes<=281474976710656:=by
  refine growslice_fits (by omega) ?_
  have:(0+n)*i.bytes<=2 ^ 36*2048:=Nat.mul_le_mul (by omega) hb
  exact nT this (by decide)
 rw[Nat.zero_add]at hnc
 have hnot: ¬(281474976710656<Builtin.nextslicecap n 0*i.bytes):=by omega
 have hlt: ¬(281474976710656<(n:Int)*(i.bytes:Int)):=by
  have h9:n*i.bytes<=2 ^ 36*2048:=Nat.mul_le_mul hn' hb
  have:((n*i.bytes:Nat):Int)<=2 ^ 47:=by exact_mod_cast nT h9 (by decide)
  push_cast at this
  omega
 have hneg: ¬((n:Int)<0):=by omega
 have hbig: ¬((9223372036854775807:Int)<n):=by omega
 generalize hnc':n+(w.tape w.drawn (.appendCap n 0 e)) % (2 ^ 63 - n)=nc
 have hge:n<=nc:=by omega
 have hn0: ¬(n=0):=by omega
 have hrun:(Builtin.append_ ts ty #[.slice none 0 0, .int .i64 n]).run P w= .ok (.slice (some ⟨w.heap.size,0,none⟩) n nc) (w.drew.alloc (.cells (Builtin.zeroCells zv.cells n++Builtin.zeroCells zv.cells (nc - n)) e)):=by
  have hcut:(Question.appendCap n 0 e).cut (w.tape w.drawn (.appendCap n 0 e))=nc:=hnc'
  have hf:(Question.appendCap n 0 e).forced=false:=rfl
  have hb1: ¬(i.bytes=0):=by omega
  by_cases hs0:i.size=0
  ·have hz0:Builtin.zeroCells zv.cells n= #[]:=by simp[Builtin.zeroCells,hzl,hs0]
   simp[Builtin.append_,h1,h2,run_underlying hu,run_underlying hxu,q0A hi,k0j hi,q0P hi hz,asInt,asIntOf,hwrap,hneg,hlt,hn0,hb1,hnot,hbig,hf,hcut,Builtin.firstCells,newRow,hs0,hz0]
  ·have hns: ¬(n*i.size=0):=fun h=>(Nat.mul_eq_zero.1 h).elim hn0 hs0
   simp[Builtin.append_,h1,h2,run_underlying hu,run_underlying hxu,q0A hi,k0j hi,q0P hi hz,asInt,asIntOf,hwrap,hneg,hlt,hn0,hb1,hnot,hbig,hf,hcut,Builtin.firstCells,newRow,hs0,hns]
 have hcs:CsRel lim φ (List.replicate n z).flatten (Builtin.zeroCells zv.cells n).toList:=k0k hzr n
 obtain⟨hr,hext⟩:=h.drew.alloc (.cells i.size (List.replicate n z).flatten) (.cells (Builtin.zeroCells zv.cells n++Builtin.zeroCells zv.cells (nc - n)) e) (Builtin.zeroCells zv.cells n++Builtin.zeroCells zv.cells (nc - n)).size i.size
  (fun sz' c' e'=>by
   cases e'
   have hl:=hcs.length
   refine⟨_,e,rfl,rfl,rfl,by simp at hl⊢;omega,fun j x hj=> ?_⟩
   obtain⟨v,hv,hr⟩:=hcs.get hj
   refine⟨v, ?_,hr⟩
   rw[Array.getElem?_append_left (by have:=(gE.1 hv).1;simpa using this)]
   rw[<-Array.getElem?_toList];exact hv)
  (fun es e'=>by cases e')
 refine⟨_,_,_,hrun,by simpa using hr,(Ext.refl φ w).drew.trans hext, .slice (Phi.add_same _ _ _) (by simpa using hge) (.inr rfl) (fun _=> .inr ?_)⟩
 have hsz2:(Builtin.zeroCells zv.cells n++Builtin.zeroCells zv.cells (nc - n)).size=nc*i.size:=by
  simp[Builtin.zeroCells,hzl]
  rw[<-Nat.add_mul];congr 1;omega
 simp only[hsz2]
 omega
theorem w1h(a b:ByteArray):(a==b)=decide (a=b):=by
 cases a with |mk a=>cases b with |mk b=>
 show ByteArray.beq _ _=_
 simp[ByteArray.beq]
 by_cases h:a=b
 ·subst h;simp
 ·simp[h]
def KK.fits:KK->TypeDesc->Bool
 | .int, .int _=>true
 | .str, .string=>true
 | .bool, .bool=>true
 |_,_=>false
theorem J0b{φ:Phi}{kk:KK}{d:TypeDesc}(hd:kk.fits d=true){a b:C}{x y:Value}(ha:CRel lim φ a x)(hb:CRel lim φ b y){r:Bool}(h:sameKey kk a b=some r):Instr.sameNow d x y=some r:=by
 cases kk<;>cases d<;>simp[KK.fits]at hd<;>cases ha<;>cases hb<;>simp_all [sameKey,Instr.sameNow]
theorem Y0U{φ:Phi}{kk:KK}{a b:C}{x y:Value}(ha:CRel lim φ a x)(hb:CRel lim φ b y)(h:sameKey kk a b=some true)(n:Nat):Instr.sameBits n y x=true:=by
 cases kk<;>cases ha<;>cases hb<;>simp_all [sameKey,Instr.sameBits]
 rw[w1h]at h⊢;simp_all
theorem Q1i{kk:KK}{k a:C}(h:sameKey kk k a=some true):a=k:=by
 cases kk<;>cases k<;>cases a<;>simp_all [sameKey]
 rw[w1h]at h;simp at h;exact h.symm
theorem X0Q{α:Type}{f:α->α}{j:Nat}{l:List α}{e:α}(h:e∈l.modify j f):e∈l\/ ∃a∈l,e=f a:=by
 obtain⟨i,hi⟩:=List.mem_iff_getElem?.1 h
 rw[List.getElem?_modify]at hi
 cases hl:l[i]? with
 |none=>rw[hl]at hi;cases hi
 |some a=>
  rw[hl]at hi
  have hi:(if j=i then f a else a)=e:=by simpa using hi
  have ha:a∈l:=List.mem_iff_getElem?.2 ⟨i,hl⟩
  split at hi
  ·exact .inr ⟨a,ha,hi.symm⟩
  ·exact .inl (hi▸ha)
theorem MRel.cons{φ:Phi}{k:C}{v:V}{es:List (C×V)}{ES:List MapEntry}(h:MRel lim φ ((k,v)::es) ES): ∃e ES',ES=e::ES'/\CRel lim φ k e.key/\VRel lim φ v e.val/\MRel lim φ es ES':=by
 cases ES with
 |nil=>simp[MRel]at h
 |cons e ES'=>
  obtain⟨e',h1,h2,h3⟩:=h.2 0 k v rfl
  simp at h1;subst h1
  exact⟨_,_,rfl,h2,h3,by simpa using h.1,fun j k v hj=>by simpa using h.2 (j+1) k v (by simpa using hj)⟩
theorem MRel.nil{φ:Phi}{ES:List MapEntry}(h:MRel lim φ [] ES):ES=[]:=List.eq_nil_of_length_eq_zero h.1.symm
theorem MRel.mk_cons{φ:Phi}{k:C}{v:V}{e:MapEntry}{es:List (C×V)}{ES:List MapEntry}(hk:CRel lim φ k e.key)(hv:VRel lim φ v e.val)(h:MRel lim φ es ES):MRel lim φ ((k,v)::es) (e::ES):=
 ⟨by simp[h.1],fun j k' v' hj=>by
  cases j with
  |zero=>simp at hj;obtain⟨rfl,rfl⟩:=hj;exact⟨e,rfl,hk,hv⟩
  |succ j=>simpa using h.2 j k' v' (by simpa using hj)⟩
theorem W0O{φ:Phi}{kk:KK}{d:TypeDesc}(hd:kk.fits d=true){k:C}{kv:Value}(hk:CRel lim φ k kv): ∀(es:List (C×V)) (ES:List MapEntry) (i0:Nat) {r:Option V},MRel lim φ es ES->findK kk k es=some r->
  (r=none/\Instr.findNow d kv ES i0=some none)\/ ∃v i x,r=some v/\Instr.findNow d kv ES i0=some (some (i0+i,x))/\VRel lim φ v x
 | [],_,i0,r,hm,h=>by
  rw[hm.nil]
  simp only[findK,oI]at h;subst h
  exact .inl ⟨rfl,rfl⟩
 |(a,u)::es,_,i0,r,hm,h=>by
  obtain⟨e,ES,rfl,ha,hu,hm⟩:=hm.cons
  simp only[findK]at h
  obtain⟨b,hb,h⟩:=oB.1 h
  have hs:=J0b hd hk ha hb
  cases b with
  |true=>
   simp at h;subst h
   exact .inr ⟨u,0,e.val,rfl,by simp[Instr.findNow,hs],hu⟩
  |false=>
   simp at h
   rcases W0O hd hk es ES (i0+1) hm h with⟨h1,h2⟩ |⟨v,i,x,h1,h2,h3⟩
   ·exact .inl ⟨h1,by simp[Instr.findNow,hs,h2]⟩
   ·exact .inr ⟨v,i+1,x,h1,by simp[Instr.findNow,hs,h2];omega,h3⟩
theorem Y0V{φ:Phi}{kk:KK}{d:TypeDesc}(hd:kk.fits d=true){k:C}{kv:Value}(hk:CRel lim φ k kv){v:V}{vv:Value}(hv:VRel lim φ v vv)(born:Nat): ∀(es:List (C×V)) (ES:List MapEntry) (i0:Nat) {es':List (C×V)},MRel lim φ es ES->setK kk k v es=some es'->
  (Instr.findNow d kv ES i0=some none/\MRel lim φ es' (ES++[{key:=kv,val:=vv,born:=born}]))\/
  ∃i x e,Instr.findNow d kv ES i0=some (some (i0+i,x))/\ES[i]? =some e/\(∀n,Instr.sameBits n e.key kv=true)/\MRel lim φ es' (ES.modify i fun e=>{e with key:=kv,val:=vv})
 | [],_,i0,es',hm,h=>by
  rw[hm.nil]
  simp only[setK,oI]at h;subst h
  exact .inl ⟨rfl, .mk_cons hk hv ⟨rfl,fun j k v hj=>by simp at hj⟩⟩
 |(a,u)::es,_,i0,es',hm,h=>by
  obtain⟨e,ES,rfl,ha,hu,hm⟩:=hm.cons
  simp only[setK]at h
  obtain⟨b,hb,h⟩:=oB.1 h
  have hs:=J0b hd hk ha hb
  cases b with
  |true=>
   simp at h;subst h
   refine .inr ⟨0,e.val,e,by simp[Instr.findNow,hs],rfl,fun n=>Y0U hk ha hb n, ?_⟩
   simp only[List.modify_zero_cons]
   refine .mk_cons ?_ hv hm
   rw[Q1i hb];exact hk
  |false=>
   simp only[bF,iF]at h
   obtain⟨es2,h2,rfl⟩:=oM.1 h
   rcases Y0V hd hk hv born es ES (i0+1) hm h2 with⟨h1,h2⟩ |⟨i,x,e2,h1,h2,h3,h4⟩
   ·exact .inl ⟨by simp[Instr.findNow,hs,h1], .mk_cons ha hu h2⟩
   ·refine .inr ⟨i+1,x,e2,by simp[Instr.findNow,hs,h1];omega,by simpa using h2,h3, ?_⟩
    simp only[List.modify_succ_cons]
    exact .mk_cons ha hu h4
theorem Y0W{φ:Phi}{kk:KK}{d:TypeDesc}(hd:kk.fits d=true){k:C}{kv:Value}(hk:CRel lim φ k kv): ∀(es:List (C×V)) (ES:List MapEntry) (i0:Nat) {es':List (C×V)},MRel lim φ es ES->delK kk k es=some es'->
  (Instr.findNow d kv ES i0=some none/\es'=es)\/ ∃i x,Instr.findNow d kv ES i0=some (some (i0+i,x))/\i<ES.length/\MRel lim φ es' (ES.eraseIdx i)
 | [],_,i0,es',hm,h=>by
  rw[hm.nil]
  simp only[delK,oI]at h;subst h
  exact .inl ⟨rfl,rfl⟩
 |(a,u)::es,_,i0,es',hm,h=>by
  obtain⟨e,ES,rfl,ha,hu,hm⟩:=hm.cons
  simp only[delK]at h
  obtain⟨b,hb,h⟩:=oB.1 h
  have hs:=J0b hd hk ha hb
  cases b with
  |true=>
   simp at h;subst h
   exact .inr ⟨0,e.val,by simp[Instr.findNow,hs],by simp,by simpa using hm⟩
  |false=>
   simp only[bF,iF]at h
   obtain⟨es2,h2,rfl⟩:=oM.1 h
   rcases Y0W hd hk es ES (i0+1) hm h2 with⟨h1,h2⟩ |⟨i,x,h1,h2,h4⟩
   ·exact .inl ⟨by simp[Instr.findNow,hs,h1],by rw[h2]⟩
   ·exact .inr ⟨i+1,x,by simp[Instr.findNow,hs,h1];omega,by simpa using h2,by simpa using MRel.mk_cons ha hu h4⟩
theorem q0B{kk:KK}{kT:TypeId}{d:TypeDesc}(hkT:P.underlying kT=some d)(hd:kk.fits d=true)(b:Bool)(n:Nat)(kv:Value)(w:World):(Instr.checkKey b (n+1) kT kv).run P w= .ok () w:=by
 cases kk<;>cases d<;>simp[KK.fits]at hd<;>simp[Instr.checkKey,run_underlying hkT]
theorem j0h{kT:TypeId}{d:TypeDesc}(hkT:P.underlying kT=some d){kv:Value}{ES:List MapEntry}{r:Option (Nat×Value)}(h:Instr.findNow d kv ES 0=some r)(w:World):(Instr.findKey kT kv ES).run P w= .ok r w:=by
 simp[Instr.findKey,run_underlying hkT,h]
theorem HRel.getMap{φ:Phi}{H:Heap}{w:World}(h:HRel lim φ H w){m:C}{mv:Value}(hm:CRel lim φ m mv){es:List (C×V)}(hg:H.getMap m=some es):
  (mv= .map none/\es=[])\/ ∃p ES clock,mv= .map (some p)/\w.heap[p]? =some (.map ES clock)/\MRel lim φ es ES.toList:=by
 cases hm<;>simp only[Heap.getMap,reduceCtorEq,oI]at hg
 ·exact .inl ⟨rfl,hg.symm⟩
 ·split at hg
  ·rename_i hh
   cases hg
   rename_i i p hp _
   obtain⟨q,ES,clock,h1,h2,h3,h4⟩:=h.maps _ _ hh
   rw[hp]at h1;cases h1
   exact .inr ⟨_,ES,clock,rfl,h2,h3⟩
  ·cases hg
theorem q0D{w:World}{p:Nat}{ES:Array MapEntry}{clock:Nat}(h:w.heap[p]? =some (.map ES clock)):(getObj p).run P w= .ok (.map ES clock) w:=by
 simp[getObj,Sem.run,h]
theorem HRel.look{φ:Phi}{H:Heap}{w:World}(h:HRel lim φ H w){kk:KK}{d:TypeDesc}{m k:C}{mv kv:Value}(hm:CRel lim φ m mv)(hk:CRel lim φ k kv){es:List (C×V)}(hg:H.getMap m=some es){r:Option V}(hf:findK kk k es=some r)
  {z:V} {zv:Value} (hz:VRel lim φ z zv) (mT kT eT:TypeId) (hmT:P.underlying mT=some (.map kT eT)) (hkT:P.underlying kT=some d) (hd:kk.fits d=true) {ti:TypeInfo} (hi:P.info? eT=some ti) (hzv:ti.zero=some zv) (ok:Bool):
  ∃rv,(Instr.lookup mT mv kv ok).run P w= .ok rv w/\VRel lim φ (if ok then .tuple [r.getD z, .c (.bool r.isSome)]else r.getD z) rv:=by
 have key: ∀ES:List MapEntry,MRel lim φ es ES-> ∃r' x,(Instr.findKey kT kv ES).run P w= .ok r' w/\VRel lim φ (r.getD z) x/\((r'=none/\r=none/\x=zv)\/ ∃i,r'=some (i,x)/\r.isSome=true):=by
  intro ES hES
  rcases W0O hd hk es ES 0 hES hf with⟨h1,h2⟩ |⟨v,i,x,h1,h2,h3⟩
  ·exact⟨none,zv,j0h hkT h2 w,by rw[h1];exact hz, .inl ⟨rfl,h1,rfl⟩⟩
  ·exact⟨_,x,j0h hkT h2 w,by rw[h1];exact h3, .inr ⟨_,rfl,by rw[h1];rfl⟩⟩
 rcases h.getMap hm hg with⟨rfl,rfl⟩ |⟨p,ES,clock,rfl,hp,hES⟩
 ·obtain⟨r',x,h1,h2,h3⟩:=key [] ⟨rfl,fun j k v hj=>by simp at hj⟩
  refine⟨if ok then .tuple #[x, .bool r.isSome]else x, ?_, ?_⟩
  ·rcases h3 with⟨rfl,rfl,rfl⟩ |⟨i,rfl,hr⟩
   ·simp[Instr.lookup,run_underlying hmT,q0B hkT hd,h1,q0P hi hzv]
   ·simp[Instr.lookup,run_underlying hmT,q0B hkT hd,h1,hr]
  ·cases ok
   ·simpa using h2
   ·simp only[iT];exact .tuple (.cons h2 (.cons (.c (.bool _)) .nil))
 ·obtain⟨r',x,h1,h2,h3⟩:=key ES.toList hES
  refine⟨if ok then .tuple #[x, .bool r.isSome]else x, ?_, ?_⟩
  ·rcases h3 with⟨rfl,rfl,rfl⟩ |⟨i,rfl,hr⟩
   ·simp[Instr.lookup,run_underlying hmT,q0D hp,q0B hkT hd,h1,q0P hi hzv]
   ·simp[Instr.lookup,run_underlying hmT,q0D hp,q0B hkT hd,h1,hr]
  ·cases ok
   ·simpa using h2
   ·simp only[iT];exact .tuple (.cons h2 (.cons (.c (.bool _)) .nil))
theorem HRel.putMap{φ:Phi}{H:Heap}{w:World}{i:Nat}{es es':List (C×V)}(h:HRel lim φ H w)(hg:H.get i=some (.map es))(hl:lim<=i){p:Pl}(hp:φ i=some p){ES':Array MapEntry}{clock':Nat}
  (hm:MRel lim φ es' ES'.toList) (hb: ∀e∈ES'.toList,e.born<clock'):
  (setObj p.blk (.map ES' clock')).run P w= .ok () {w with heap:=w.heap.setIfInBounds p.blk (.map ES' clock')}/\
  HRel lim φ (H.put i (.map es')) {w with heap:=w.heap.setIfInBounds p.blk (.map ES' clock')}/\Ext lim φ w φ {w with heap:=w.heap.setIfInBounds p.blk (.map ES' clock')}:=by
 obtain⟨p',ES,clock,h1,h2,h3,h4⟩:=h.maps i _ hg
 rw[hp]at h1;cases h1
 have hlt:=h.bound i p hp
 have hnew:({w with heap:=w.heap.setIfInBounds p.blk (.map ES' clock')}:World).heap[p.blk]? =some (.map ES' clock'):=by
  simp only[Array.getElem?_setIfInBounds,iT];simp[hlt]
 have hoth: ∀b,b≠p.blk->({w with heap:=w.heap.setIfInBounds p.blk (.map ES' clock')}:World).heap[b]? =w.heap[b]? :=fun b hb=>by
  simp only[Array.getElem?_setIfInBounds];rw[if_neg (Ne.symm hb)]
 refine⟨by simp[setObj,Sem.run,h2],⟨h.low,h.dom,fun j q hq=>by simpa using h.bound j q hq, ?_, ?_, ?_⟩,⟨fun _ _ hq=>hq,fun _ _ hq=> .inl hq,by simp, ?_,rfl,rfl,rfl,fun a=> ?_⟩⟩
 rotate_left 4
 ·by_cases e:a.block=p.blk
  ·simp only[World.frozen?,e,hnew,h2]
  ·simp only[World.frozen?,hoth _ e]
 ·intro j sz' c' hj
  by_cases e:j=i
  ·subst e;simp[Heap.put]at hj
  ·simp only[Heap.put,e,iF]at hj
   obtain⟨q,B,el',fz',g1,g2,g3,g4,g5,g6⟩:=h.cells j _ _ hj
   have hne:q.blk≠p.blk:=fun eb=>e (h.inj j i q p hl (by rw[hj];simp) (by rw[hg];simp) g1 hp eb)
   exact⟨q,B,el',fz',g1,by rw[hoth _ hne];exact g2,g3,g4,g5,g6⟩
 ·intro j es2 hj
  by_cases e:j=i
  ·subst e
   simp only[Heap.put,iT,oI,Obj.map.injEq]at hj
   subst hj
   exact⟨p,ES',clock',hp,hnew,hm,hb⟩
  ·simp only[Heap.put,e,iF]at hj
   obtain⟨q,ES2,clock2,g1,g2,g3⟩:=h.maps j _ hj
   have hne:q.blk≠p.blk:=fun eb=>e (h.inj j i q p hl (by rw[hj];simp) (by rw[hg];simp) g1 hp eb)
   exact⟨q,ES2,clock2,g1,by rw[hoth _ hne];exact g2,g3⟩
 ·intro a b q r hlb ha hb' hq hr e
  refine h.inj a b q r hlb ?_ ?_ hq hr e
  ·by_cases ea:a=i
   ·rw[ea,hg];simp
   ·simpa[Heap.put,ea]using ha
  ·by_cases eb:b=i
   ·rw[eb,hg];simp
   ·simpa[Heap.put,eb]using hb'
 ·intro b hb' hn
  exact hoth b fun e=>hn i p hl hp e.symm
theorem HRel.mset{φ:Phi}{H H':Heap}{w:World}(h:HRel lim φ H w){kk:KK}{d:TypeDesc}{m k:C}{v:V}{mv kv vv:Value}(hm:CRel lim φ m mv)(hk:CRel lim φ k kv)(hv:VRel lim φ v vv)(hs:H.mset lim kk m k v=some H')
  (mT kT eT:TypeId) (hmT:P.underlying mT=some (.map kT eT)) (hkT:P.underlying kT=some d) (hd:kk.fits d=true):
  ∃w',(Instr.mapUpdate mT mv kv vv).run P w= .ok () w'/\HRel lim φ H' w'/\Ext lim φ w φ w':=by
 cases hm<;>simp only[Heap.mset,reduceCtorEq]at hs
 rename_i i p hp
 split at hs
 ·rename_i es hg
  split at hs
  ·rename_i hl
   obtain⟨es',hes,rfl⟩:=oM.1 hs
   obtain⟨q,ES,clock,h1,h2,h3,h4⟩:=h.maps _ _ hg
   rw[hp]at h1;cases h1
   rcases Y0V hd hk hv clock es ES.toList 0 h3 hes with⟨f1,f2⟩ |⟨j,x,e,f1,f2,f3,f4⟩
   ·obtain⟨g1,g2,g3⟩:=h.putMap (P:=P) (es':=es') (ES':=ES.push {key:=kv,val:=vv,born:=clock}) (clock':=clock+1) hg hl hp (by simpa using f2)
     (fun e he=>by
      rw[Array.toList_push,mA]at he
      rcases he with he |he
      ·have:=h4 e he;omega
      ·simp only[mC,List.not_mem_nil,or_false]at he;subst he;exact Nat.lt_succ_self _)
    exact⟨_,by simp[Instr.mapUpdate,run_underlying hmT,q0D h2,q0B hkT hd,j0h hkT f1,g1],g2,g3⟩
   ·obtain⟨g1,g2,g3⟩:=h.putMap (P:=P) (es':=es') (ES':=ES.modify j fun e=>{e with key:=kv,val:=vv}) (clock':=clock) hg hl hp (by simpa using f4)
     (fun e he=>by
      simp only[Array.toList_modify]at he
      rcases X0Q he with he |⟨a,ha,rfl⟩
      ·exact h4 e he
      ·exact h4 a ha)
    refine⟨_, ?_,g2,g3⟩
    have f2':ES[j]? =some e:=by simpa using f2
    simp[Instr.mapUpdate,run_underlying hmT,q0D h2,q0B hkT hd,j0h hkT f1,f2',Instr.keyThatStays,f3,g1]
  ·cases hs
 ·cases hs
theorem HRel.mdel{φ:Phi}{H H':Heap}{w:World}(h:HRel lim φ H w){kk:KK}{d:TypeDesc}{m k:C}{mv kv:Value}(hm:CRel lim φ m mv)(hk:CRel lim φ k kv)(hs:H.mdel lim kk m k=some H')
  (ts:Array TypeId) (ty mT kT eT:TypeId) (h0:ts[0]? =some mT) (hmT:P.underlying mT=some (.map kT eT)) (hkT:P.underlying kT=some d) (hd:kk.fits d=true):
  ∃w',(Builtin.delete_ ts ty #[mv,kv]).run P w= .ok (.tuple #[]) w'/\HRel lim φ H' w'/\Ext lim φ w φ w':=by
 cases hm<;>simp only[Heap.mdel,reduceCtorEq]at hs
 ·cases hs
  exact⟨w,by simp[Builtin.delete_,h0,run_underlying hmT,q0B hkT hd],h, .refl _ _⟩
 rename_i i p hp
 split at hs
 ·rename_i es hg
  split at hs
  ·rename_i hl
   obtain⟨es',hes,rfl⟩:=oM.1 hs
   obtain⟨q,ES,clock,h1,h2,h3,h4⟩:=h.maps _ _ hg
   rw[hp]at h1;cases h1
   rcases Y0W hd hk es ES.toList 0 h3 hes with⟨f1,rfl⟩ |⟨j,x,f1,f2,f4⟩
   ·obtain⟨g1,g2,g3⟩:=h.putMap (P:=P) (es':=es') (ES':=ES) (clock':=clock) hg hl hp h3 h4
    exact⟨_,by simp[Builtin.delete_,h0,run_underlying hmT,q0D h2,q0B hkT hd,j0h hkT f1,g1],g2,g3⟩
   ·have herase:(ES.eraseIdxIfInBounds j).toList=ES.toList.eraseIdx j:=by
     have f2':j<ES.size:=by simpa using f2
     simp[Array.eraseIdxIfInBounds,f2']
    obtain⟨g1,g2,g3⟩:=h.putMap (P:=P) (es':=es') (ES':=ES.eraseIdxIfInBounds j) (clock':=clock) hg hl hp (by rw[herase];exact f4)
     (fun e he=>h4 e (by rw[herase]at he;exact List.mem_of_mem_eraseIdx he))
    exact⟨_,by simp[Builtin.delete_,h0,run_underlying hmT,q0D h2,q0B hkT hd,j0h hkT f1,g1],g2,g3⟩
  ·cases hs
 ·cases hs
variable{lim base:Nat}{P:Program}
def LocRel(lim:Nat)(φ:Phi)(w:World)(b:Nat)(cs:List C):Prop:=
 (∃A el,w.heap[b]? =some (.cells A el (0,0))/\CsRel lim φ cs A.toList)/\ ∀j p,φ j=some p->p.blk≠b
def TRel(lim:Nat)(φ:Phi)(ψ:Nat->Nat)(e:Env)(w:World)(p:Nat):T->Value->Prop
 | .poison,_=>True
 | .val v,x=>VRel lim φ v x
 | .loc cs,x=>x= .pointer (some ⟨ψ p,0,none⟩)/\LocRel lim φ w (ψ p) cs
 | .laddr q o,x=>x= .pointer (some ⟨ψ q,o,none⟩)/\ ∃cs,e[q]? =some (.loc cs)
structure ERel (lim base:Nat) (φ:Phi) (ψ:Nat->Nat) (e:Env) (ts:Array Value) (w:World):Prop where
 len:e.length=ts.size
 tmp: ∀p t,e[p]? =some t-> ∃x,ts[p]? =some x/\TRel lim φ ψ e w p t x
 inj: ∀(p q:Nat) cs cs',e[p]? =some (.loc cs)->e[q]? =some (.loc cs')->ψ p=ψ q->p=q
 low: ∀(p:Nat) cs,e[p]? =some (.loc cs)->base<=ψ p
theorem LocRel.lt{φ:Phi}{w:World}{b:Nat}{cs:List C}(h:LocRel lim φ w b cs):b<w.heap.size:=by
 obtain⟨⟨A,el,h1,_⟩,_⟩:=h
 exact(Array.getElem?_eq_some_iff.1 h1).1
theorem LocRel.ext{φ φ':Phi}{w w':World}{b:Nat}{cs:List C}(h:LocRel lim φ w b cs)(k:Ext lim φ w φ' w'):LocRel lim φ' w' b cs:=by
 have hlt:=h.lt
 obtain⟨⟨A,el,h1,h2⟩,h3⟩:=h
 refine⟨⟨A,el,by rw[k.same b hlt (fun j q _ hq=>h3 j q hq)];exact h1,h2.mono k.mono⟩,fun j p hp e=> ?_⟩
 rcases k.fresh j p hp with hp |⟨_,hs |⟨j',q,_,hq,eq⟩⟩
 ·exact h3 j p hp e
 ·omega
 ·exact h3 j' q hq (eq.trans e)
theorem ERel.ext{φ φ':Phi}{ψ:Nat->Nat}{e:Env}{ts:Array Value}{w w':World}(h:ERel lim base φ ψ e ts w)(k:Ext lim φ w φ' w'):ERel lim base φ' ψ e ts w':=by
 refine⟨h.len,fun p t ht=> ?_,h.inj,h.low⟩
 obtain⟨x,hx,hr⟩:=h.tmp p t ht
 refine⟨x,hx, ?_⟩
 cases t with
 |poison=>trivial
 |val v=>exact hr.mono k.mono
 |loc cs=>exact⟨hr.1,hr.2.ext k⟩
 |laddr q o=>exact hr
def ORel(lim:Nat)(φ:Phi)(ψ:Nat->Nat)(e:Env):T->Value->Prop
 | .poison,_=>True
 | .val v,x=>VRel lim φ v x
 | .loc _,_=>False
 | .laddr q o,x=>x= .pointer (some ⟨ψ q,o,none⟩)/\ ∃cs,e[q]? =some (.loc cs)
theorem Env.get_eq{e:Env}{p:Nat}{t:T}(h:e.get p=t)(ht:t≠ .poison):e[p]? =some t:=by
 unfold Env.get at h
 rw[lG]at h
 cases hp:e[p]? with
 |none=>rw[hp]at h;exact absurd h.symm ht
 |some u=>rw[hp]at h;exact congrArg some h
theorem Y0X{φ:Phi}{ψ:Nat->Nat}{e e1:Env}{ts:Array Value}{w:World}(h:ERel lim base φ ψ e ts w)(d:Nat){t:T}{x:Value}(ht:ORel lim φ ψ e t x)
  (hlen:e1.length=e.length) (h1: ∀p u,p≠d->e1[p]? =some u-> ∃u0,e[p]? =some u0/\(u=u0\/u= .poison)/\(∀q o cs,u= .laddr q o->e[q]? =some (.loc cs)->q≠d/\e1[q]? =some (.loc cs)))
  (h2: ∀u,e1[d]? =some u->u= .poison\/(u=t/\ ∀q o cs,u= .laddr q o->e[q]? =some (.loc cs)->e1[q]? =some (.loc cs))):
  ERel lim base φ ψ e1 (ts.setIfInBounds d x) w:=by
 have hne: ∀(p:Nat) cs,e1[p]? =some (T.loc cs)->e[p]? =some (.loc cs):=by
  intro p cs hp
  by_cases hpd:p=d
  ·subst hpd
   rcases h2 _ hp with h3 |⟨h3,_⟩
   ·cases h3
   ·subst h3;exact ht.elim
  ·obtain⟨u0,hu0,hor,_⟩:=h1 p _ hpd hp
   rcases hor with rfl |h3
   ·exact hu0
   ·cases h3
 refine⟨by rw[hlen,h.len];simp,fun p u hu=> ?_,fun p q cs cs' hp hq e'=> ?_,fun p cs hp=>h.low p cs (hne p cs hp)⟩
 ·by_cases hpd:p=d
  ·subst hpd
   have hlt:p<ts.size:=by rw[<-h.len,<-hlen];exact(gE.1 hu).1
   refine⟨x,by simp[hlt], ?_⟩
   rcases h2 u hu with rfl |⟨rfl,hl⟩
   ·trivial
   ·cases u with
    |poison=>trivial
    |val v=>exact ht
    |loc cs=>exact ht.elim
    |laddr q o=>
     obtain⟨h3,cs,h4⟩:=ht
     exact⟨h3,cs,hl q o cs rfl h4⟩
  ·obtain⟨u0,hu0,hor,hl⟩:=h1 p u hpd hu
   obtain⟨y,hy,hr⟩:=h.tmp p u0 hu0
   refine⟨y,by rw[Array.getElem?_setIfInBounds,if_neg (fun e'=>hpd e'.symm)];exact hy, ?_⟩
   rcases hor with rfl |rfl
   ·cases u with
    |poison=>trivial
    |val v=>exact hr
    |loc cs=>exact hr
    |laddr q o=>
     obtain⟨h3,cs,h4⟩:=hr
     exact⟨h3,cs,(hl q o cs rfl h4).2⟩
   ·trivial
 ·exact h.inj p q cs cs' (hne p cs hp) (hne q cs' hq) e'
theorem q0n(p:Nat)(t:T):t.purge p=t\/(t.purge p= .poison/\ ∃o,t= .laddr p o):=by
 cases t with
 |laddr q o=>
  by_cases h:q=p
  ·exact .inr ⟨by simp[T.purge,h],o,by rw[h]⟩
  ·exact .inl (by simp[T.purge,h])
 |_=>exact .inl rfl
theorem ERel.put{φ:Phi}{ψ:Nat->Nat}{e:Env}{ts:Array Value}{w:World}(h:ERel lim base φ ψ e ts w)(d:Nat){t:T}{x:Value}(ht:ORel lim φ ψ e t x):
  ERel lim base φ ψ (e.put d t) (ts.setIfInBounds d x) w:=by
 unfold Env.put
 split
 ·
  rename_i cs hd
  refine Y0X h d ht (by simp) (fun p u hpd hu=> ?_) (fun u hu=> ?_)
  ·rw[List.getElem?_set_ne (Ne.symm hpd),List.getElem?_map]at hu
   cases hp:e[p]? with
   |none=>rw[hp]at hu;cases hu
   |some u0=>
    rw[hp]at hu;simp only[Option.map_some,oI]at hu
    refine⟨u0,rfl, ?_,fun q o cs' hq hl=> ?_⟩
    ·rcases q0n d u0 with h1 |⟨h1,_⟩
     ·exact .inl (by rw[<-hu,h1])
     ·exact .inr (by rw[<-hu,h1])
    ·subst hu
     rcases q0n d u0 with h1 |⟨h1,_⟩
     ·rw[h1]at hq;subst hq
      have hqd:q≠d:=by intro e';simp[T.purge,e']at h1
      refine⟨hqd, ?_⟩
      rw[List.getElem?_set_ne (Ne.symm hqd),List.getElem?_map,hl];rfl
     ·rw[h1]at hq;cases hq
  ·have hu2:u=t.purge d:=by
    have hlt:=(gE.1 hu).1
    simp at hlt
    rw[List.getElem?_set_self (by simpa using hlt)]at hu
    exact(Option.some.inj hu).symm
   subst hu2
   rcases q0n d t with h1 |⟨h1,_⟩
   ·refine .inr ⟨h1,fun q o cs' hq hl=> ?_⟩
    rw[h1]at hq;subst hq
    have hqd:q≠d:=by intro e';simp[T.purge,e']at h1
    rw[List.getElem?_set_ne (Ne.symm hqd),List.getElem?_map,hl];rfl
   ·exact .inl h1
 ·rename_i hd
  refine Y0X h d ht (by simp) (fun p u hpd hu=> ?_) (fun u hu=> ?_)
  ·rw[List.getElem?_set_ne (Ne.symm hpd)]at hu
   refine⟨u,hu, .inl rfl,fun q o cs' hq hl=> ?_⟩
   have hqd:q≠d:=by
    intro e';subst e'
    exact hd cs' (by unfold Env.get;rw[lG,hl];rfl)
   exact⟨hqd,by rw[List.getElem?_set_ne (Ne.symm hqd)];exact hl⟩
  ·have hu2:u=t.purge d:=by
    have hlt:=(gE.1 hu).1
    simp at hlt
    rw[List.getElem?_set_self (by simpa using hlt)]at hu
    exact(Option.some.inj hu).symm
   subst hu2
   rcases q0n d t with h1 |⟨h1,_⟩
   ·refine .inr ⟨h1,fun q o cs' hq hl=> ?_⟩
    rw[h1]at hq;subst hq
    have hqd:q≠d:=by intro e';simp[T.purge,e']at h1
    rw[List.getElem?_set_ne (Ne.symm hqd)];exact hl
   ·exact .inl h1
theorem ERel.forget{φ:Phi}{ψ:Nat->Nat}{e:Env}{ts:Array Value}{w:World}(h:ERel lim base φ ψ e ts w)(d:Nat):ERel lim base φ ψ (e.put d .poison) ts w:=by
 by_cases hd:d<ts.size
 ·have:=h.put d (t:= .poison) (x:=ts[d]) trivial
  rwa [show ts.setIfInBounds d ts[d]=ts by simp[Array.setIfInBounds,hd]]at this
 ·have:=h.put d (t:= .poison) (x:= .nilFunc) trivial
  rwa [show ts.setIfInBounds d .nilFunc=ts by simp[Array.setIfInBounds,hd]]at this
theorem ERel.kill{φ:Phi}{ψ:Nat->Nat}{ts:Array Value}{w:World}: ∀(ds:List Nat) {e:Env},ERel lim base φ ψ e ts w->ERel lim base φ ψ (Env.kill ds e) ts w
 | [],_,h=>h
 |d::ds,_,h=>ERel.kill ds (h.forget d)
theorem ERel.any{φ:Phi}{ψ:Nat->Nat}{e:Env}{ts:Array Value}{w:World}(h:ERel lim base φ ψ e ts w)(d:Nat)(hd: ∀t,e[d]? =some t->t= .poison)(x:Value):ERel lim base φ ψ e (ts.setIfInBounds d x) w:=by
 refine⟨by rw[h.len];simp,fun p t hp=> ?_,h.inj,h.low⟩
 by_cases e':p=d
 ·subst e'
  have:=hd t hp
  subst this
  have hlt:p<ts.size:=by rw[<-h.len];exact(gE.1 hp).1
  exact⟨x,by simp[hlt],trivial⟩
 ·obtain⟨y,hy,hr⟩:=h.tmp p t hp
  exact⟨y,by rw[Array.getElem?_setIfInBounds,if_neg (Ne.symm e')];exact hy,hr⟩
def chkC:C->Value->Bool
 | .bool a, .bool b=>a==b
 | .int k a, .int j b=>k==j&&a==b
 | .str a, .string b=>decide (a=b)
 | .nilPtr, .pointer none=>true
 | .nilSlice, .slice none 0 0=>true
 | .nilMap, .map none=>true
 | .nilFunc, .nilFunc=>true
 | .nilIface, .nilIface=>true
 |_,_=>false
def chkCs:List C->List Value->Bool
 | [],[]=>true
 |x::xs,v::vs=>chkC x v&&chkCs xs vs
 |_,_=>false
def chkV:V->Value->Bool
 | .c x,v=>chkC x v
 | .agg cs, .agg arr=>chkCs cs arr.toList
 |_,_=>false
def chkX:X->Operand->Bool
 | .t p, .tmp q=>p==q
 | .c v, .const x=>chkV v x
 | .f g, .func h=>g==h
 |_,_=>false
def chkXs:List X->List Operand->Bool
 | [],[]=>true
 |x::xs,v::vs=>chkX x v&&chkXs xs vs
 |_,_=>false
theorem W0P{φ:Phi}{x:C}{v:Value}(h:chkC x v=true):CRel lim φ x v:=by
 cases x<;>cases v<;>simp[chkC]at h
 ·subst h;exact .bool _
 ·obtain⟨rfl,rfl⟩:=h;exact .int _ _
 ·subst h;exact .str _
 ·rename_i a;cases a<;>simp[chkC]at h;exact .nilPtr
 ·rename_i a n c;cases a<;>cases n<;>cases c<;>simp[chkC]at h;exact .nilSlice
 ·rename_i a;cases a<;>simp[chkC]at h;exact .nilMap
 ·exact .nilFunc
 ·exact .nilIface
theorem q0w{φ:Phi}: ∀{xs:List C} {vs:List Value},chkCs xs vs=true->CsRel lim φ xs vs
 | [],[],_=> .nil
 |x::xs,v::vs,h=>by
  simp only[chkCs,bA]at h
  exact .cons (W0P h.1) (q0w h.2)
 | [],_::_,h=>by simp[chkCs]at h
 |_::_,[],h=>by simp[chkCs]at h
theorem W0Q{φ:Phi}{x:V}{v:Value}(h:chkV x v=true):VRel lim φ x v:=by
 cases x with
 |c x=>exact .c (W0P (by simpa[chkV]using h))
 |agg cs=>cases v<;>simp[chkV]at h;exact .agg (q0w h)
 |tuple vs=>simp[chkV]at h
section eval
variable{φ:Phi}{ψ:Nat->Nat}{e:Env}{a:Act}{w:World}
theorem ERel.getD(he:ERel lim base φ ψ e a.tmps w){p:Nat}{t:T}(h:e.get p=t)(ht:t≠ .poison):TRel lim φ ψ e w p t (a.eval (.tmp p)):=by
 obtain⟨x,hx,hr⟩:=he.tmp p t (Env.get_eq h ht)
 simpa[Act.eval,hx]using hr
theorem q0R(he:ERel lim base φ ψ e a.tmps w){x:X}{y:Operand}(hc:chkX x y=true){v:V}(h:ev e x=some v):VRel lim φ v (a.eval y):=by
 cases x with
 |t p=>
  cases y<;>simp[chkX]at hc
  subst hc
  simp only[ev]at h
  split at h
  ·rename_i u hu
   cases h
   exact he.getD hu (by simp)
  ·cases h
 |c v'=>
  cases y<;>simp[chkX]at hc
  simp only[ev,oI]at h;subst h
  exact W0Q hc
 |f g=>
  cases y<;>simp[chkX]at hc
  subst hc
  simp only[ev,oI]at h;subst h
  exact .c (.func .nil .nil)
theorem q0i(he:ERel lim base φ ψ e a.tmps w){x:X}{y:Operand}(hc:chkX x y=true){v:C}(h:evC e x=some v):CRel lim φ v (a.eval y):=by
 obtain⟨u,hu,h⟩:=oB.1 h
 have:=q0R he hc hu
 cases u<;>simp[V.asC]at h
 subst h
 cases this with
 |c h=>exact h
theorem q0H(he:ERel lim base φ ψ e a.tmps w){k:IntKind}{x:X}{y:Operand}(hc:chkX x y=true){n:Int}(h:evI k e x=some n):a.eval y= .int k n:=by
 obtain⟨u,hu,h⟩:=oB.1 h
 have:=q0i he hc hu
 cases u<;>simp[C.asI]at h
 obtain⟨rfl,rfl⟩:=h
 generalize a.eval y=z at this⊢
 cases this;rfl
theorem z0c(he:ERel lim base φ ψ e a.tmps w){x:X}{y:Operand}(hc:chkX x y=true){b:Bool}(h:evB e x=some b):a.eval y= .bool b:=by
 obtain⟨u,hu,h⟩:=oB.1 h
 have:=q0i he hc hu
 cases u<;>simp[C.asB]at h
 subst h
 generalize a.eval y=z at this⊢
 cases this;rfl
theorem z0d{x:C}{v:Value}(h:CRel lim φ x v){n:Int}(hn:x.asIx=some n): ∃k,v= .int k n:=by
 cases h<;>simp[C.asIx]at hn
 subst hn;exact⟨_,rfl⟩
theorem k0P{x:C}{v:Value}(h:CRel lim φ x v){n:ByteArray}(hn:x.asS=some n):v= .string n:=by
 cases h<;>simp[C.asS]at hn
 subst hn;rfl
theorem K0b(he:ERel lim base φ ψ e a.tmps w): ∀{xs:List X} {ys:List Operand} {vs:List V},chkXs xs ys=true->evs e xs=some vs->VsRel lim φ vs (ys.map a.eval)
 | [],[],_,_,h=>by simp only[evs,oI]at h;subst h;exact .nil
 |x::xs,y::ys,_,hc,h=>by
  simp only[chkXs,bA]at hc
  simp only[evs]at h
  obtain⟨v,hv,h⟩:=oB.1 h
  obtain⟨vs,hvs,h⟩:=oB.1 h
  cases h
  exact .cons (q0R he hc.1 hv) (K0b he hc.2 hvs)
 | [],_::_,_,hc,_=>by simp[chkXs]at hc
 |_::_,[],_,hc,_=>by simp[chkXs]at hc
theorem W0R(he:ERel lim base φ ψ e a.tmps w): ∀{xs:List X} {ys:List Operand} {vs:List C},chkXs xs ys=true->evCs e xs=some vs->CsRel lim φ vs (ys.map a.eval)
 | [],[],_,_,h=>by simp only[evCs,oI]at h;subst h;exact .nil
 |x::xs,y::ys,_,hc,h=>by
  simp only[chkXs,bA]at hc
  simp only[evCs]at h
  obtain⟨v,hv,h⟩:=oB.1 h
  obtain⟨vs,hvs,h⟩:=oB.1 h
  cases h
  exact .cons (q0i he hc.1 hv) (W0R he hc.2 hvs)
 | [],_::_,_,hc,_=>by simp[chkXs]at hc
 |_::_,[],_,hc,_=>by simp[chkXs]at hc
def WRel(lim:Nat)(φ:Phi)(ψ:Nat->Nat)(e:Env)(w:World):Where->Value->Prop
 | .loc p o,x=>x= .pointer (some ⟨ψ p,o,none⟩)/\ ∃cs,e[p]? =some (.loc cs)/\LocRel lim φ w (ψ p) cs
 | .obj i o,x=> ∃p,φ i=some p/\x= .pointer (some ⟨p.blk,p.sh+o,none⟩)
theorem q0q(he:ERel lim base φ ψ e a.tmps w){x:X}{y:Operand}(hc:chkX x y=true){r:Where}(h:place e x=some r):WRel lim φ ψ e w r (a.eval y):=by
 cases x with
 |t p=>
  cases y<;>simp[chkX]at hc
  subst hc
  simp only[place]at h
  split at h
  ·rename_i cs hu
   cases h
   have:=he.getD hu (by simp)
   exact⟨this.1,cs,Env.get_eq hu (by simp),this.2⟩
  ·rename_i q o hu
   cases h
   obtain⟨h1,cs,h2⟩:=he.getD hu (by simp)
   obtain⟨x,hx,h3⟩:=he.tmp q _ h2
   exact⟨h1,cs,h2,h3.2⟩
  ·rename_i i o hu
   cases h
   have:=he.getD hu (by simp)
   generalize a.eval (.tmp p)=z at this⊢
   cases this with
   |c h=>cases h with
    |ptr h=>exact⟨_,h,rfl⟩
  ·cases h
 |c v'=>
  cases y<;>simp[chkX]at hc
  cases v' with
  |c x=>cases x<;>simp[place]at h;simp[chkV,chkC]at hc
  |_=>simp[place]at h
 |f g=>simp[place]at h
theorem q0x{R:Type}{x:X}{Kl Ko:Nat->Nat->Option R}{r:R}(h:placeK e x Kl Ko=some r):(∃p o,place e x=some (.loc p o)/\Kl p o=some r)\/ ∃i o,place e x=some (.obj i o)/\Ko i o=some r:=by
 have key: ∀(v:V),(v.asP.bind fun a=>Ko a.1 a.2)=some r-> ∃i o,v= .c (.ptr i o)/\Ko i o=some r:=by
  intro v hv
  obtain⟨⟨i,o⟩,h1,h2⟩:=oB.1 hv
  cases v with
  |c x=>cases x<;>simp[V.asP,V.asC]at h1;obtain⟨rfl,rfl⟩:=h1;exact⟨_,_,rfl,h2⟩
  |agg cs=>simp[V.asP,V.asC]at h1
  |tuple vs=>simp[V.asP,V.asC]at h1
 cases x with
 |t p=>
  simp only[placeK]at h
  split at h
  ·rename_i hu;exact .inl ⟨_,_,by simp[place,hu],h⟩
  ·rename_i hu;exact .inl ⟨_,_,by simp[place,hu],h⟩
  ·rename_i v hu
   obtain⟨i,o,rfl,h2⟩:=key v h
   exact .inr ⟨i,o,by simp[place,hu],h2⟩
  ·cases h
 |c v=>
  simp only[placeK]at h
  obtain⟨i,o,rfl,h2⟩:=key v h
  exact .inr ⟨i,o,rfl,h2⟩
 |f g=>cases h
theorem j0w{R:Type}{kd:K0}{x:C}{K:C->Option R}{r:R}(h:kd.take x K=some r):K x=some r:=by
 cases kd<;>simp only[K0.take]at h
 ·exact h
 ·obtain⟨n,h1,h2⟩:=oB.1 h
  cases x<;>simp[C.asI]at h1
  obtain⟨rfl,rfl⟩:=h1;exact h2
 ·obtain⟨n,h1,h2⟩:=oB.1 h
  cases x<;>simp[C.asB]at h1
  subst h1;exact h2
 ·obtain⟨n,h1,h2⟩:=oB.1 h
  cases x<;>simp[C.asS]at h1
  subst h1;exact h2
theorem Q0v{R:Type}{r:R}: ∀{ks:List K0} {xs:List C} {K:List C->Option R},takes ks xs K=some r->K xs=some r
 | [],xs,K,h=>by
  simp only[takes]at h
  split at h
  ·rename_i h0;rwa [List.eq_nil_of_length_eq_zero h0]
  ·cases h
 |k::ks,xs,K,h=>by
  simp only[takes]at h
  obtain⟨x,h1,h2⟩:=oB.1 h
  cases xs with
  |nil=>simp[headC]at h1
  |cons y ys=>
   simp only[headC,oI]at h1;subst h1
   exact Q0v (xs:=ys) (K:=fun ys=>K (y::ys)) (j0w h2)
theorem k0l{R:Type}{kd:KD}{v:V}{K:V->Option R}{r:R}(h:kd.take v K=some r):K v=some r:=by
 cases kd<;>simp only[KD.take]at h
 ·exact h
 ·obtain⟨x,h1,h2⟩:=oB.1 h
  cases v<;>simp[V.asC]at h1
  subst h1;exact j0w h2
 ·obtain⟨x,h1,h2⟩:=oB.1 h
  cases v<;>simp[V.asA]at h1
  subst h1;exact Q0v h2
theorem j0i{p:Nat}{cs cs':List C}(h:locCells e p=some cs)(h':e[p]? =some (.loc cs')):cs=cs':=by
 unfold locCells Env.get at h
 rw[lG,h']at h
 simpa using h.symm
end eval
variable{lim base:Nat}{P:Program}
def szIs(P:Program)(t:TypeId)(n:Nat):Bool:=match P.info? t with
 |some i=>i.size==n
 |none=>false
def scalarT(P:Program)(t:TypeId):Bool:=match P.underlying t with
 |some (.struct _) |some (.array _ _) |none=>false
 |_=>true
def aggT(P:Program)(t:TypeId):Bool:=match P.underlying t with
 |some (.struct _) |some (.array _ _)=>true
 |_=>false
def zeroIs(P:Program)(t:TypeId)(z:List C):Bool:=match P.info? t with
 |some i=>match i.zero with
  |some v=>chkCs z v.cells.toList&&v.cells.size==i.size
  |none=>false
 |none=>false
def zeroV(P:Program)(t:TypeId)(z:V):Bool:=match P.info? t with
 |some i=>match i.zero with
  |some v=>chkV z v
  |none=>false
 |none=>false
def sliceT(P:Program)(t:TypeId):Option TypeId:=match P.underlying t with
 |some (.slice e)=>some e
 |_=>none
def bytesOk(P:Program)(t:TypeId):Bool:=match P.info? t with
 |some i=>decide (0<i.bytes)&&decide (i.bytes<=2048)
 |none=>false
def isInt(P:Program)(t:TypeId)(k:IntKind):Bool:=match P.underlying t with
 |some (.int j)=>j==k
 |_=>false
def NK.fits:NK->TypeDesc->Bool
 | .ptr, .pointer _=>true
 | .slice, .slice _=>true
 | .map, .map _ _=>true
 | .func, .func _ _ _=>true
 | .iface, .interface _=>true
 |_,_=>false
def nilOf:NK->Value->Bool
 | .ptr, .pointer none=>true
 | .slice, .slice none 0 0=>true
 | .map, .map none=>true
 | .func, .nilFunc=>true
 | .iface, .nilIface=>true
 |_,_=>false
def chkParts(pl:Nat->Option (Nat×Nat)):List (Nat×Nat×X)->List (Nat×Operand)->Bool
 | [],[]=>true
 |(o,n,x)::ps,(i,y)::qs=>(pl i==some (o,n))&&chkX x y&&chkParts pl ps qs
 |_,_=>false
def chkO:Option X->Option Operand->Bool
 |none,none=>true
 |some x,some y=>chkX x y
 |_,_=>false
def isArith:BinOp->Bool
 | .add | .sub | .mul=>true
 |_=>false
def isCmp:BinOp->Bool
 | .eql | .neq | .lss | .leq | .gtr | .geq=>true
 |_=>false
def isDiv:BinOp->Bool
 | .quo | .rem=>true
 |_=>false
def isBit:BinOp->Bool
 | .and | .or | .xor | .andNot=>true
 |_=>false
def isSh:BinOp->Bool
 | .shl | .shr=>true
 |_=>false
def mapT(P:Program)(t:TypeId)(kk:KK):Option TypeId:=match P.underlying t with
 |some (.map k e)=>match P.underlying k with
  |some d=>if kk.fits d then some e else none
  |none=>none
 |_=>none
def fieldsOf(P:Program)(t:TypeId):Option (Array Field):=match P.underlying t with
 |some (.struct fs)=>some fs
 |_=>none
def kindK(P:Program)(t:TypeId):K0->Bool
 | .int _=>(match P.underlying t with |some (.int _)=>true |_=>false)
 | .bool=>(match P.underlying t with |some .bool=>true |_=>false)
 | .str=>(match P.underlying t with |some .string=>true |_=>false)
 | .c=>false
def fieldsK(P:Program):Nat->List K0->List Field->Bool
 |_,[],[]=>true
 |i,k::ks,f::fs=>f.name != "_" &&f.offset==i&&scalarT P f.type&&kindK P f.type k&&fieldsK P (i+1) ks fs
 |_,_,_=>false
def chkOp(P:Program)(rop:ROp)(o:Oper):Bool:=match rop with
 | .mov x=>match o.op with
  | .move y=>chkX x y
  | .assign y=>chkX x y
  |_=>false
 | .box _ x=>match o.op with
  | .box _ y=>chkX x y
  |_=>false
 | .new z=>match o.op with
  | .alloc t=>zeroIs P t z
  |_=>false
 | .build z ps=>match o.op with
  | .build t qs=>zeroIs P t z&&(match P.underlying t with
    |some (.struct fs)=>fs.all (fun f=>(P.info? f.type).isSome)&&chkParts (fun i=>(fs[i]?).bind fun f=>(P.info? f.type).map fun j=>(f.offset,j.size)) ps qs.toList
    |some (.array _ e)=>(match P.info? e with
     |some j=>chkParts (fun i=>some (i*j.size,j.size)) ps qs.toList
     |none=>false)
    |_=>false)
  |_=>false
 | .lit sz len z ps=>match o.op with
  | .buildSlice t n qs=>n==len&&(match sliceT P t with
    |some e=>(match P.info? e with
     |some j=>j.size==sz&&decide (len*sz<=2 ^ 24)&&(match j.zero with
      |some zv=>chkCs z ((Array.range (len*sz)).map (((if len*sz=0 then #[]else zv.cells))[· % (if len*sz=0 then #[]else zv.cells).size]!)).toList
      |none=>false)&&chkParts (fun i=>some (i*sz,sz)) ps qs.toList
     |none=>false)
    |none=>false)
  |_=>false
 | .ld _ x=>match o.op with
  | .load t y=>scalarT P t&&chkX x y
  |_=>false
 | .lds kds x=>match o.op with
  | .load t y=>aggT P t&&szIs P t kds.length&&chkX x y
  |_=>false
 | .ldN n x=>match o.op with
  | .load t y=>aggT P t&&szIs P t n&&chkX x y
  |_=>false
 | .ldL _ _ x=>match o.op with
  | .load t y=>scalarT P t&&chkX x y
  |_=>false
 | .ldsL _ kds x=>match o.op with
  | .load t y=>aggT P t&&szIs P t kds.length&&chkX x y
  |_=>false
 | .nilck x=>match o.op with
  | .nilCheck y=>chkX x y
  |_=>false
 | .ar op k x y=>match o.op with
  | .binOp op' _ x' y' _=>op==op'&&isArith op&&chkX x x'&&chkX y y'
  |_=>false
 | .cmp op k x y=>match o.op with
  | .binOp op' _ x' y' _=>op==op'&&isCmp op&&chkX x x'&&chkX y y'
  |_=>false
 | .dv op k x y=>match o.op with
  | .binOp op' _ x' y' _=>op==op'&&isDiv op&&chkX x x'&&chkX y y'
  |_=>false
 | .bit op k x y=>match o.op with
  | .binOp op' _ x' y' _=>op==op'&&isBit op&&chkX x x'&&chkX y y'
  |_=>false
 | .sh op k j x y=>match o.op with
  | .binOp op' _ x' y' _=>op==op'&&isSh op&&chkX x x'&&chkX y y'
  |_=>false
 | .eqB ne x y=>match o.op with
  | .binOp op' t x' y' _=>(if ne then op'== .neq else op'== .eql)&&(P.underlying t matches some .bool)&&chkX x x'&&chkX y y'
  |_=>false
 | .eqA ne ks x y=>match o.op with
  | .binOp op' t x' y' _=>(if ne then op'== .neq else op'== .eql)&&chkX x x'&&chkX y y'&& !P.stoodInHeld t&& !P.eqGuardType P.depth t&&(match P.underlying t with
    |some (.struct fs)=>fieldsK P 0 ks fs.toList
    |_=>false)
  |_=>false
 | .cmpS op x y=>match o.op with
  | .binOp op' _ x' y' _=>op==op'&&isCmp op&&chkX x x'&&chkX y y'
  |_=>false
 | .catS x y=>match o.op with
  | .binOp op' _ x' y' _=>op'== .add&&chkX x x'&&chkX y y'
  |_=>false
 | .eqN nk ne x=>match o.op with
  | .binOp op' t x' y' _=>(if ne then op'== .neq else op'== .eql)&&(match P.underlying t with |some d=>nk.fits d |none=>false)&&chkX x x'&&(match y' with | .const v=>nilOf nk v |_=>false)
  |_=>false
 | .not x=>match o.op with
  | .unOp .not _ y=>chkX x y
  |_=>false
 | .neg k x=>match o.op with
  | .unOp .neg _ y=>chkX x y
  |_=>false
 | .conv j k x=>match o.op with
  | .convert s d y=>isInt P s j&&isInt P d k&&chkX x y
  |_=>false
 | .fld n x=>match o.op with
  | .fieldAddr s y f=>chkX x y&&(match fieldsOf P s with
    |some fs=>(match fs[f]? with
     |some fd=>fd.offset==n&&(match P.info? fd.type with
      |some i=>i.size !=0
      |none=>false)
     |none=>false)
    |none=>false)
  |_=>false
 | .fldC n x=>match o.op with
  | .field s y f=>chkX x y&&(match fieldsOf P s with
    |some fs=>(match fs[f]? with
     |some fd=>fd.offset==n&&scalarT P fd.type
     |none=>false)
    |none=>false)
  |_=>false
 | .fldA n m x=>match o.op with
  | .field s y f=>chkX x y&&(match fieldsOf P s with
    |some fs=>(match fs[f]? with
     |some fd=>fd.offset==n&&aggT P fd.type&&szIs P fd.type m
     |none=>false)
    |none=>false)
  |_=>false
 | .idx sz x i=>match o.op with
  | .indexAddr t y j=>chkX x y&&chkX i j&&(match sliceT P t with
    |some e=>szIs P e sz
    |none=>false)
  |_=>false
 | .idxA n sz x i=>match o.op with
  | .indexAddr t y j=>chkX x y&&chkX i j&&(match P.underlying t with
    |some (.array m e)=>m==n&&szIs P e sz
    |_=>false)
  |_=>false
 | .idxS x i=>match o.op with
  | .index t y j=>chkX x y&&chkX i j&&(P.underlying t matches some .string)
  |_=>false
 | .idxVC n _ x i=>match o.op with
  | .index t y j=>chkX x y&&chkX i j&&(match P.underlying t with
    |some (.array m e)=>m==n&&szIs P e 1&&scalarT P e
    |_=>false)
  |_=>false
 | .idxVA n sz x i=>match o.op with
  | .index t y j=>chkX x y&&chkX i j&&(match P.underlying t with
    |some (.array m e)=>m==n&&szIs P e sz&&aggT P e
    |_=>false)
  |_=>false
 | .sub sz x lo hi=>match o.op with
  | .slice t y l h none=>chkX x y&&chkO lo l&&chkO hi h&&(match sliceT P t with
    |some e=>szIs P e sz
    |none=>false)
  |_=>false
 | .subM sz x lo hi mx=>match o.op with
  | .slice t y l (some h) (some m)=>chkX x y&&chkO lo l&&chkO hi (some h)&&chkO mx (some m)&&(match sliceT P t with
    |some e=>szIs P e sz
    |none=>false)
  |_=>false
 | .appZ sz z s n=>match o.op with
  | .call {callee:= .builtin .append,args,argTypes}=>chkXs [s,n] args.toList&&(match argTypes[0]?,argTypes[1]? with
    |some t,some u=>(match sliceT P t with
     |some e=>szIs P e sz&&bytesOk P e&&zeroIs P e z&&(P.underlying u matches some (.int _))
     |none=>false)
    |_,_=>false)
  |_=>false
 | .capN x=>match o.op with
  | .call {callee:= .builtin .cap,args,argTypes}=>chkXs [x] args.toList&&(match argTypes[0]? with
    |some t=>(sliceT P t).isSome
    |none=>false)
  |_=>false
 | .subS x lo hi=>match o.op with
  | .slice t y l h none=>chkX x y&&chkO lo l&&chkO hi h&&(P.underlying t matches some .string)
  |_=>false
 | .len x=>match o.op with
  | .call {callee:= .builtin .len,args,argTypes}=>chkXs [x] args.toList&&(match argTypes[0]? with
    |some t=>(sliceT P t).isSome
    |none=>false)
  |_=>false
 | .lenS x=>match o.op with
  | .call {callee:= .builtin .len,args,argTypes}=>chkXs [x] args.toList&&(match argTypes[0]? with
    |some t=>(P.underlying t matches some .string)
    |none=>false)
  |_=>false
 | .lenM x=>match o.op with
  | .call {callee:= .builtin .len,args,argTypes}=>chkXs [x] args.toList&&(match argTypes[0]? with
    |some t=>(P.underlying t matches some (.map _ _))
    |none=>false)
  |_=>false
 | .app sz s x=>match o.op with
  | .call {callee:= .builtin .append,args,argTypes}=>chkXs [s,x] args.toList&&(match argTypes[0]?,argTypes[1]? with
    |some t,some u=>(match sliceT P t with
     |some e=>szIs P e sz&&bytesOk P e&&(sliceT P u).isSome&&(match P.info? e with
      |some i=>(match i.zero with
       |some z=>z.cells.size==i.size
       |none=>false)
      |none=>false)
     |none=>false)
    |_,_=>false)
  |_=>false
 | .copy sz d s=>match o.op with
  | .call {callee:= .builtin .copy,args,argTypes}=>chkXs [d,s] args.toList&&(match argTypes[0]? with
    |some t=>(match sliceT P t with
     |some e=>szIs P e sz
     |none=>false)
    |none=>false)
  |_=>false
 | .mkS sz z n=>match o.op with
  | .makeSlice t l c=>chkX n l&&chkX n c&&(match sliceT P t with
    |some e=>szIs P e sz&&bytesOk P e&&zeroIs P e z
    |none=>false)
  |_=>false
 | .mkF f cap=>match o.op with
  | .makeFunc (.func g) first captured=>f==g&&first.isEmpty&&chkXs cap captured.toList
  |_=>false
 | .mkM=>match o.op with
  | .makeMap _ none=>true
  |_=>false
 | .look kk z ok _ m k=>match o.op with
  | .lookup t m' k' ok'=>ok==ok'&&chkX m m'&&chkX k k'&&(match mapT P t kk with
    |some e=>zeroV P e z
    |none=>false)
  |_=>false
 | .mset kk m k v=>match o.op with
  | .mapUpdate t m' k' v'=>chkX m m'&&chkX k k'&&chkX v v'&&(mapT P t kk).isSome
  | .insert t m' k' v'=>chkX m m'&&chkX k k'&&chkX v v'&&(mapT P t kk).isSome
  |_=>false
 | .clr z x=>match o.op with
  | .call {callee:= .builtin .clear,args,argTypes}=>chkXs [x] args.toList&&(match argTypes[0]? with
    |some t=>(match sliceT P t with
     |some el=>zeroIs P el z
     |none=>false)
    |none=>false)
  |_=>false
 | .mdel kk m k=>match o.op with
  | .call {callee:= .builtin .delete,args,argTypes}=>chkXs [m,k] args.toList&&(match argTypes[0]? with
    |some t=>(mapT P t kk).isSome
    |none=>false)
  |_=>false
 | .call f _ args=>match o.op with
  | .call {callee:= .value (.func g),args:=ys, .. }=>f==g&&chkXs args ys.toList
  |_=>false
 | .callV x _ args=>match o.op with
  | .call {callee:= .value y,args:=ys, .. }=>chkX x y&&chkXs args ys.toList
  |_=>false
 | .ext _ x i=>match o.op with
  | .extract y j=>i==j&&chkX x y
  |_=>false
 | .mkI t x=>match o.op with
  | .makeInterface u y=>t==u&&chkX x y&&(match P.underlying t with
    |some (.interface _) |none=>false
    |_=>true)
  |_=>false
 | .stH n a x=>match o.op with
  | .store t a' x'=>szIs P t n&&chkX a a'&&chkX x x'
  |_=>false
 | .chkd _ _ _ _ _=>false
 | .mm mx k x y=>match o.op with
  | .call {callee:= .builtin b,args, .. }=>chkXs [x,y] args.toList&&(if mx then b matches .max else b matches .min)
  |_=>false
theorem z0e{t:TypeId}(h:aggT P t=true)(w:World):(isAgg t).run P w= .ok true w:=by
 unfold aggT at h
 cases hd:P.underlying t with
 |none=>rw[hd]at h;cases h
 |some d=>rw[hd]at h;cases d<;>simp at h<;>simp[isAgg,run_underlying hd]
theorem j0E{t:TypeId}(h:scalarT P t=true)(w:World):(isAgg t).run P w= .ok false w:=by
 unfold scalarT at h
 cases hd:P.underlying t with
 |none=>rw[hd]at h;cases h
 |some d=>rw[hd]at h;cases d<;>simp at h<;>simp[isAgg,run_underlying hd]
theorem q0m{t:TypeId}{n:Nat}(h:szIs P t n=true)(w:World):(sizeOf t).run P w= .ok n w:=by
 unfold szIs at h
 split at h
 ·rename_i i hi;rw[q0A hi];simp at h;rw[h]
 ·cases h
theorem k0m{α β:Type}(w:World)(f:α->Sem β)(g:α->β): ∀(l:List α),(∀x∈l,(f x).run P w= .ok (g x) w)->(l.mapM f).run P w= .ok (l.map g) w
 | [],_=>by simp
 |x::l,h=>by simp[h x (by simp),k0m w f g l (fun y hy=>h y (by simp[hy]))]
theorem z1G{α β:Type}(w:World)(f:α->Sem β)(g:α->β)(l:Array α)(h: ∀x∈l,(f x).run P w= .ok (g x) w):(l.mapM f).run P w= .ok (l.map g) w:=by
 rw[Array.mapM_eq_mapM_toList]
 simp[k0m w f g l.toList (fun x hx=>h x (by simpa using hx))]
 apply Array.ext';simp
section one
variable{φ:Phi}{ψ:Nat->Nat}{e:Env}{a:Act}{w:World}{H:Heap}
theorem Q0w: ∀(xs:List C) (vs:List Value) (z:List C) (arr:Array Value) (off k:Nat),CsRel lim φ xs vs->CsRel lim φ z arr.toList->
  CsRel lim φ (splice z (off+k) xs) ((vs.zipIdx k).foldl (fun cs (c,j)=>cs.setIfInBounds (off+j) c) arr).toList
 | [],_,z,arr,off,k,hx,hz=>by cases hx;exact hz
 |x::xs,_,z,arr,off,k,hx,hz=>by
  cases hx with
  |cons a b=>
   simp only[splice,List.zipIdx_cons,List.foldl_cons]
   have:=Q0w xs _ (z.set (off+k) x) (arr.setIfInBounds (off+k) _) off (k+1) b (by rw[Array.toList_setIfInBounds];exact hz.set a (off+k))
   simpa[Nat.add_assoc]using this
theorem k0n(he:ERel lim base φ ψ e a.tmps w)(pl:Nat->Option (Nat×Nat)): ∀(ps:List (Nat×Nat×X)) (qs:List (Nat×Operand)) (z:List C) (arr:Array Value) {cs:List C},chkParts pl ps qs=true->CsRel lim φ z arr.toList->
  fillC e z ps=some cs-> ∃arr',Instr.fill pl arr (qs.map fun(i,x)=>(i,a.eval x))=some arr'/\CsRel lim φ cs arr'.toList
 | [],[],z,arr,cs,_,hz,h=>by simp only[fillC,oI]at h;subst h;exact⟨arr,rfl,hz⟩
 |(o,n,x)::ps,(i,y)::qs,z,arr,cs,hc,hz,h=>by
  simp only[chkParts,bA,beq_iff_eq]at hc
  obtain⟨⟨h1,h2⟩,h3⟩:=hc
  simp only[fillC]at h
  obtain⟨v,hv,h⟩:=oB.1 h
  obtain⟨xs,hxs,h⟩:=oB.1 h
  split at h
  ·rename_i hh
   have hr:=(q0R he h2 hv).cells hxs
   have hl:=hr.length
   have hzl:=hz.length
   have:=Q0w xs _ z arr o 0 hr hz
   obtain⟨arr',g1,g2⟩:=k0n he pl ps qs _ _ h3 this h
   refine⟨arr', ?_,g2⟩
   simp only[List.map_cons,Instr.fill,h1]
   have e1: ¬((a.eval y).cells.size≠n\/o+(a.eval y).cells.size>arr.size):=by
    simp at hl hzl;omega
   simp only[Array.length_toList]at hl hzl
   rw[if_neg (by simp;omega)]
   rw[<-g1]
   congr 1
   rw[<-Array.foldl_toList,Array.toList_zipIdx]
  ·cases h
 | [],_::_,_,_,_,hc,_,_=>by simp[chkParts]at hc
 |_::_,[],_,_,_,hc,_,_=>by simp[chkParts]at hc
theorem z0f{t:TypeId}(ht:scalarT P t=true){ad:Addr}{v:Value}(h:w.cell? ad=some v):(loadVar t ad).run P w= .ok v w:=by
 simp[loadVar,j0E ht,h]
theorem q0Y{t:TypeId}{n:Nat}(ht:aggT P t=true)(hn:szIs P t n=true){ad:Addr}{A:Array Value}(h:(loadCells ad n).run P w= .ok A w):(loadVar t ad).run P w= .ok (.agg A) w:=by
 simp[loadVar,z0e ht,q0m hn,h]
theorem Heap.lds_ldN{R:Type}{H:Heap}{i:Nat}{r:R}: ∀(kds:List K0) (o:Nat) (K:List C->Option R),H.lds i o kds K=some r->(kds.length=0\/ ∃sz c,H.get i=some (.cells sz c)/\o+kds.length<=c.length)/\ ∃xs,K xs=some r/\xs.length=kds.length/\ ∀j x,xs[j]? =some x->H.ld i (o+j)=some x
 | [],o,K,h=>⟨.inl rfl,[],h,rfl,fun j x hj=>by simp at hj⟩
 |kd::kds,o,K,h=>by
  simp only[Heap.lds]at h
  obtain⟨x,hx,h⟩:=oB.1 h
  have h:=j0w h
  obtain⟨h1,xs,h2,h3,h4⟩:=Heap.lds_ldN kds (o+1) _ h
  refine⟨.inr ?_,x::xs,h2,by simp[h3],fun j y hj=> ?_⟩
  ·have hx':=hx
   unfold Heap.ld at hx'
   split at hx'
   ·rename_i sz c hg
    refine⟨sz,c,hg, ?_⟩
    have hlt:=(gE.1 hx').1
    simp only[List.length_cons]
    rcases h1 with h1 |⟨sz',c',hg',hle⟩
    ·omega
    ·rw[hg]at hg';cases hg';omega
   ·cases hx'
  ·cases j with
   |zero=>simp at hj;subst hj;exact hx
   |succ j=>have:=h4 j y (by simpa using hj);rwa [show o+1+j=o+(j+1) by omega]at this
theorem LocRel.cell{b:Nat}{cs:List C}(h:LocRel lim φ w b cs){o:Nat}{x:C}(hx:cs[o]? =some x): ∃v,w.cell? ⟨b,o,none⟩=some v/\CRel lim φ x v:=by
 obtain⟨⟨A,el,h1,h2⟩,_⟩:=h
 obtain⟨v,hv,hr⟩:=h2.get hx
 exact⟨v,by rw[cell_of_row w _ _ _ _ _ h1];simpa using hv,hr⟩
theorem LocRel.cells{b:Nat}{cs:List C}(h:LocRel lim φ w b cs){o n:Nat}(hn:o+n<=cs.length): ∃A:Array Value,(loadCells ⟨b,o,none⟩ n).run P w= .ok A w/\CsRel lim φ ((cs.drop o).take n) A.toList:=by
 obtain⟨⟨A,el,h1,h2⟩,_⟩:=h
 have hl:=h2.length
 simp only[Array.length_toList]at hl
 have hcell: ∀j,j<n->w.cell? ((⟨b,o,none⟩:Addr).add j)=some (A.getD (o+j) default):=by
  intro j hj
  rw[Addr.add_lit,cell_of_row w _ _ _ _ _ h1]
  have:o+j<A.size:=by omega
  simp[this]
 refine⟨_,run_loadCells w _ n _ hcell,CsRel.of_get (by simp;omega) fun j x v hx hv=> ?_⟩
 have hj:j<n:=by
  have:=(gE.1 hx).1
  simp at this;omega
 rw[List.getElem?_take_of_lt hj,List.getElem?_drop]at hx
 obtain⟨u,hu,hr⟩:=h2.get hx
 simp[hj]at hv
 subst hv
 simp only[Array.getElem?_toList]at hu
 rw[hu];exact hr
theorem z1H{s:C}{sv:Value}(hs:CRel lim φ s sv){sz:Nat}{n:Int}{k:IntKind}{id o:Nat}(h:s.elem sz n=some (id,o)){t el:TypeId}(ht:P.underlying t=some (.slice el))(hz:szIs P el sz=true):
  ∃v,(Instr.indexAt t sv (.int k n)).run P w= .ok v w/\CRel lim φ (.ptr id o) v:=by
 cases hs<;>simp[C.elem]at h
 rotate_left
 ·omega
 rename_i i oo m off c p hp h1 h2 h3
 obtain⟨⟨g1,g2⟩,rfl,rfl⟩:=h
 have hc:c≠0:=by omega
 have hoff:=h2.resolve_left hc
 subst hoff
 refine⟨.pointer (some ⟨p.blk,p.sh+(oo+n.toNat*sz),none⟩), ?_, .ptr hp⟩
 simp[Instr.indexAt,asIntOf,run_underlying ht,q0m hz,g1,g2,Addr.add_lit]
 omega
theorem z1I{s r:C}{sv:Value}(hH:HRel lim φ H w)(hs:CRel lim φ s sv){sz:Nat}{lo hi mx:Int}(h:H.subM lim sz s lo (some hi) (some mx)=some r){t el:TypeId}(ht:P.underlying t=some (.slice el))(hz:szIs P el sz=true)
  {l:Option Value} {kh km:IntKind} (hl:(l=none/\lo=0)\/ ∃k,l=some (.int k lo)):
  ∃v,(Instr.sliceAt t sv l (some (.int kh hi)) (some (.int km mx))).run P w= .ok v w/\CRel lim φ r v:=by
 obtain⟨n0,hn0,h9⟩:=oB.1 h
 clear h
 have h:=h9
 clear h9
 split at h
 rotate_left
 ·cases h
 rename_i hm
 simp only[Option.getD]at hm
 have key: ∀(a:Option Addr) (n c:Nat),(0<=lo/\lo<=hi/\hi<=mx/\mx<=n)->n<=c->(Instr.sliceAt t (.slice a n c) l (some (.int kh hi)) (some (.int km mx))).run P w= .ok (.slice (if mx.toNat=lo.toNat then a else a.map (·.add (lo.toNat*sz))) (hi.toNat - lo.toNat) (mx.toNat - lo.toNat)) w:=by
  intro a n c hb hnc
  have h1:(0<=mx/\mx<=(c:Int)):=by omega
  have h2:(0<=hi/\hi<=max mx 0):=by omega
  have h3:(0<=lo/\lo<=max hi 0):=by omega
  rcases hl with⟨rfl,rfl⟩ |⟨kl,rfl⟩
  ·simp[Instr.sliceAt,Instr.slice,Instr.sliceBounds,Instr.sliceBound,asIntOf,run_underlying ht,q0m hz,h1,h2]
  ·simp[Instr.sliceAt,Instr.slice,Instr.sliceBounds,Instr.sliceBound,asIntOf,run_underlying ht,q0m hz,h1,h2,h3]
 cases hs<;>simp only[Heap.sub,reduceCtorEq,C.len,oI]at h hn0
 ·subst hn0
  split at h
  ·rename_i hh2
   cases h
   obtain⟨rfl,hh3⟩:=hh2
   simp only[Option.getD]at hh3
   subst hh3
   have hmx:mx=0:=by simp at hm;omega
   subst hmx
   refine⟨_,key none 0 0 (by simp) (nR _), ?_⟩
   simpa using CRel.nilSlice
  ·cases h
 ·rename_i i o n off c p hp h1 h2 h3
  subst hn0
  split at h
  ·cases h
  ·rename_i hbad
   split at h
   ·rename_i hb
    cases h
    simp only[Option.getD]at hb
    have hmc:mx.toNat<=c:=by omega
    refine⟨_,key (some ⟨p.blk,off,none⟩) n c ⟨hb.1,hb.2.1,hm.1,hm.2⟩ h1, ?_⟩
    simp only[Option.getD]
    have hn:(hi - lo).toNat=hi.toNat - lo.toNat:=by omega
    rw[hn]
    by_cases hc:mx.toNat=lo.toNat
    ·rw[if_pos hc]
     exact .slice hp (by omega) (.inl (by omega)) (fun _=> .inl (by omega))
    ·rw[if_neg hc]
     have hc0:c≠0:=by omega
     have hoff:=h2.resolve_left hc0
     subst hoff
     simp only[Option.map_some,Addr.add_lit]
     refine .slice hp (by omega) (.inr (by omega)) (fun hl=> .inr ?_)
     have hfit:=(h3 hl).resolve_left hc0
     by_cases hlo0:lo=0
     ·subst hlo0
      have h9:(mx.toNat - 0)*p.sz<=c*p.sz:=Nat.mul_le_mul_right _ (by omega)
      simp only[Int.toNat_zero,Nat.zero_mul,Nat.add_zero]
      omega
     have hsz:p.sz=sz:=by
      simp only[not_and,Bool.not_eq_true]at hbad
      have:=hbad (by omega) (by omega) hl
      unfold Heap.szBad at this
      split at this
      ·rename_i z cc hg
       obtain⟨q,A,el',fz,g1,g2,g3,g4,g5,g6⟩:=hH.cells _ _ _ hg
       rw[hp]at g1;cases g1
       simp at this
       rw[(g5 hl).1,this]
      ·cases this
     rw[hsz]at hfit⊢
     have:lo.toNat*sz+(mx.toNat - lo.toNat)*sz=mx.toNat*sz:=by rw[<-Nat.add_mul];congr 1;omega
     have h9:mx.toNat*sz<=c*sz:=Nat.mul_le_mul_right _ hmc
     omega
   ·cases h
 ·rename_i i o a hlt
  subst hn0
  split at h
  ·cases h
  ·split at h
   ·rename_i hb
    cases h
    simp only[Option.getD]at hb
    have e1:hi=0:=by simp at hm hb;omega
    have e2:mx=0:=by simp at hm hb;omega
    have e3:lo=0:=by simp at hm hb;omega
    subst e1 e2 e3
    refine⟨_,key (some a) 0 0 (by simp) (nR _), ?_⟩
    simpa using CRel.slice0 (o:=o) hlt
   ·cases h
theorem Q1j{s r:C}{sv:Value}(hH:HRel lim φ H w)(hs:CRel lim φ s sv){sz:Nat}{lo:Int}{hi:Option Int}(h:H.sub lim sz s lo hi=some r){t el:TypeId}(ht:P.underlying t=some (.slice el))(hz:szIs P el sz=true)
  {l h':Option Value} (hl:(l=none/\lo=0)\/ ∃k,l=some (.int k lo)) (hh:(h'=none/\hi=none)\/ ∃k n,h'=some (.int k n)/\hi=some n):
  ∃v,(Instr.sliceAt t sv l h' none).run P w= .ok v w/\CRel lim φ r v:=by
 have key: ∀(a:Option Addr) (n c:Nat),(0<=lo/\lo<=hi.getD n/\hi.getD n<=n)->n<=c->(Instr.sliceAt t (.slice a n c) l h' none).run P w= .ok (.slice (if c=lo.toNat then a else a.map (·.add (lo.toNat*sz))) ((hi.getD n).toNat - lo.toNat) (c - lo.toNat)) w:=by
  intro a n c hb hnc
  rcases hl with⟨rfl,rfl⟩ |⟨kl,rfl⟩<;>rcases hh with⟨rfl,rfl⟩ |⟨kh,m,rfl,rfl⟩<;>simp only[Option.getD]at hb⊢
  ·simp[Instr.sliceAt,Instr.slice,Instr.sliceBounds,run_underlying ht,q0m hz]
  ·have:(0<=m/\m<=(c:Int)):=by omega
   simp[Instr.sliceAt,Instr.slice,Instr.sliceBounds,Instr.sliceBound,asIntOf,run_underlying ht,q0m hz,this]
  ·have:(0<=lo/\lo<=(n:Int)):=by omega
   simp[Instr.sliceAt,Instr.slice,Instr.sliceBounds,Instr.sliceBound,asIntOf,run_underlying ht,q0m hz,this]
  ·have h1:(0<=m/\m<=(c:Int)):=by omega
   have h2:(0<=lo/\lo<=max m 0):=by omega
   simp[Instr.sliceAt,Instr.slice,Instr.sliceBounds,Instr.sliceBound,asIntOf,run_underlying ht,q0m hz,h1,h2]
 cases hs<;>simp only[Heap.sub,reduceCtorEq]at h
 ·split at h
  ·rename_i hh2
   cases h
   obtain⟨rfl,hh3⟩:=hh2
   have hb:(0:Int)<=0/\(0:Int)<=hi.getD ((0:Nat):Int)/\hi.getD ((0:Nat):Int)<=((0:Nat):Int):=by
    cases hi<;>simp at hh3⊢;omega
   refine⟨_,key none 0 0 hb (nR _), ?_⟩
   have:(hi.getD ((0:Nat):Int)).toNat - (0:Int).toNat=0:=by omega
   simp only[this]
   simpa using CRel.nilSlice
  ·cases h
 ·rename_i i o n off c p hp h1 h2 h3
  split at h
  ·cases h
  ·rename_i hbad
   split at h
   ·rename_i hb
    cases h
    refine⟨_,key (some ⟨p.blk,off,none⟩) n c hb h1, ?_⟩
    have hn:(hi.getD (n:Int) - lo).toNat=(hi.getD (n:Int)).toNat - lo.toNat:=by omega
    rw[hn]
    by_cases hc:c=lo.toNat
    ·rw[if_pos hc]
     exact .slice hp (by omega) (.inl (by omega)) (fun _=> .inl (by omega))
    ·rw[if_neg hc]
     have hc0:c≠0:=by omega
     have hoff:=h2.resolve_left hc0
     subst hoff
     simp only[Option.map_some,Addr.add_lit]
     refine .slice hp (by omega) (.inr (by omega)) (fun hl=> .inr ?_)
     have hfit:=(h3 hl).resolve_left hc0
     by_cases hn0:n=0
     ·have hlo:lo.toNat=0:=by omega
      rw[hlo];simpa using hfit
     by_cases hlo0:lo=0
     ·subst hlo0
      simpa using hfit
     have hsz:p.sz=sz:=by
      simp only[not_and,Bool.not_eq_true]at hbad
      have:=hbad (by omega) (by omega) hl
      unfold Heap.szBad at this
      split at this
      ·rename_i z cc hg
       obtain⟨q,A,el',fz,g1,g2,g3,g4,g5,g6⟩:=hH.cells _ _ _ hg
       rw[hp]at g1;cases g1
       simp at this
       rw[(g5 hl).1,this]
      ·cases this
     rw[hsz]at hfit⊢
     have:lo.toNat*sz+(c - lo.toNat)*sz=c*sz:=by rw[<-Nat.add_mul];congr 1;omega
     omega
   ·cases h
 ·rename_i i o a hlt
  split at h
  ·cases h
  ·split at h
   ·rename_i hb
    cases h
    refine⟨_,key (some a) 0 0 hb (nR _), ?_⟩
    have h0:lo.toNat=0:=by omega
    have h1:(hi.getD ((0:Nat):Int)).toNat=0:=by omega
    have h2:(hi.getD ((0:Nat):Int) - lo).toNat=0:=by omega
    rw[h2,h1,h0]
    exact .slice0 hlt
   ·cases h
end one
variable{lim base:Nat}{P:Program}
theorem q0u{o:Oper}{a:Act}{w w':World}{v:Value}{next:Act->World->Prop}{Q:Exit->Act->World->Prop}(h:(execOp a.eval o).run P w= .ok (.value v) w')(hn:next (a.put o.dst v) w'):o.wp P a w next Q:=by
 unfold Oper.wp;rw[h];exact hn
theorem j0R{o:Oper}{a:Act}{w w':World}{next:Act->World->Prop}{Q:Exit->Act->World->Prop}(h:(execOp a.eval o).run P w= .ok .skip w')(hn:next (a.put o.dst undef) w'):o.wp P a w next Q:=by
 unfold Oper.wp;rw[h];exact hn
theorem Q1k{φ:Phi}{w:World}{d:Nat}{k:K0}{x y:C}{v u:Value}{b:Bool}{t:TypeId}(hk:kindK P t k=true)(h:eqK k x y=some b)(hx:CRel lim φ x v)(hy:CRel lim φ y u):(Op.equalIn (d+1) t v u).run P w= .ok b w:=by
 cases k with
 |c=>simp[kindK]at hk
 |int k=>
  simp only[kindK]at hk
  split at hk
  ·rename_i k' hu
   obtain⟨m,h1,h⟩:=oB.1 h
   obtain⟨n,h2,h⟩:=oB.1 h
   cases x<;>simp[C.asI]at h1
   cases y<;>simp[C.asI]at h2
   obtain⟨rfl,rfl⟩:=h1
   obtain⟨rfl,rfl⟩:=h2
   cases h
   cases hx;cases hy
   rw[run_equalIn_int w d t _ _ _ _ hu]
   congr 1
  ·cases hk
 |bool=>
  simp only[kindK]at hk
  split at hk
  ·rename_i hu
   obtain⟨m,h1,h⟩:=oB.1 h
   obtain⟨n,h2,h⟩:=oB.1 h
   cases x<;>simp[C.asB]at h1
   cases y<;>simp[C.asB]at h2
   subst h1 h2
   cases h
   cases hx;cases hy
   rw[run_equalIn_bool' w d t _ _ hu]
  ·cases hk
 |str=>
  simp only[kindK]at hk
  split at hk
  ·rename_i hu
   obtain⟨m,h1,h⟩:=oB.1 h
   obtain⟨n,h2,h⟩:=oB.1 h
   cases x<;>simp[C.asS]at h1
   cases y<;>simp[C.asS]at h2
   subst h1 h2
   cases h
   cases hx;cases hy
   rw[run_equalIn_string w d t _ _ hu]
   congr 1
   rw[Bool.eq_iff_iff];simp
  ·cases hk
theorem w0c{φ:Phi}{w:World}{d:Nat}{XS YS:Array Value}: ∀(fs:List Field) (i:Nat) (ks:List K0) (xs ys:List C) (b:Bool),fieldsK P i ks fs=true->eqKs ks xs ys=some b->
  (∀(j:Nat) x,xs[j]? =some x-> ∃v,XS[i+j]? =some v/\CRel lim φ x v)->(∀(j:Nat) y,ys[j]? =some y-> ∃v,YS[i+j]? =some v/\CRel lim φ y v)->(Op.eqFields (d+1) XS YS fs).run P w= .ok b w
 | [],i,ks,xs,ys,b,hf,hb,_,_=>by
  cases ks<;>simp[fieldsK]at hf
  cases xs<;>cases ys<;>simp[eqKs]at hb
  subst hb
  simp[Op.eqFields]
 |f::fs,i,ks,xs,ys,b,hf,hb,hx,hy=>by
  cases ks with
  |nil=>simp[fieldsK]at hf
  |cons k ks=>
   simp only[fieldsK,bA,bne_iff_ne,beq_iff_eq]at hf
   obtain⟨⟨⟨⟨h1,h2⟩,h3⟩,h4⟩,h5⟩:=hf
   cases xs with
   |nil=>simp[eqKs]at hb
   |cons x xs=>
    cases ys with
    |nil=>simp[eqKs]at hb
    |cons y ys=>
     obtain⟨b1,hb1,hb⟩:=oB.1 hb
     obtain⟨b2,hb2,hb⟩:=oB.1 hb
     cases hb
     obtain⟨v,v1,v2⟩:=hx 0 x rfl
     obtain⟨u,u1,u2⟩:=hy 0 y rfl
     rw[Nat.add_zero]at v1 u1
     have hr:=w0c (w:=w) (d:=d) fs (i+1) ks xs ys b2 h5 hb2 (fun j z hj=>by
      obtain⟨v,g1,g2⟩:=hx (j+1) z (by simpa using hj)
      exact⟨v,by rw[<-g1];congr 1;omega,g2⟩) (fun j z hj=>by
      obtain⟨v,g1,g2⟩:=hy (j+1) z (by simpa using hj)
      exact⟨v,by rw[<-g1];congr 1;omega,g2⟩)
     have he:=Q1k (w:=w) (d:=d) h4 hb1 v2 u2
     cases b1<;>simp[Op.eqFields,h1,h2,part,j0E h3,v1,u1,he,hr]
def CallOK(lim:Nat)(P:Program)(call:CallT):Prop:=
 ∀(f:FuncId) (vs:List V) (H:Heap) (r:V) (H':Heap),call f vs H=some (r,H')->
  (∃fn c,P.funcs[f]? =some fn/\fn.body=some c/\(fn.name== "runtime.NumGoroutine")=false)/\
  ∀(φ:Phi) (w:World) (args:Array Value),HRel lim φ H w->VsRel lim φ vs args.toList->
   Calls P f args w fun e w'=> ∃v φ',e= .returned v/\VRel lim φ' r v/\HRel lim φ' H' w'/\Ext lim φ w φ' w'
section one
variable{φ:Phi}{ψ:Nat->Nat}{e:Env}{a:Act}{w:World}{H:Heap}{R:Type}{K:T->Heap->Option R}{r:R}{o:Oper}
 {next:Act->World->Prop} {Q:Exit->Act->World->Prop} {call:CallT}
theorem Y0Y(hcall:CallOK lim P call){f:FuncId}{vs:List V}{args:Array Value}{v:V}{H':Heap}(hH:HRel lim φ H w)(hvs:VsRel lim φ vs args.toList)(hc:call f vs H=some (v,H'))(hK:K (.val v) H'=some r)
  (hrun: ∀fn c,P.funcs[f]? =some fn->fn.body=some c->(fn.name== "runtime.NumGoroutine")=false->(execOp a.eval o).run P w= .ok (.enter f args) w)
  (hn: ∀t H' φ' w' v,K t H'=some r->HRel lim φ' H' w'->Ext lim φ w φ' w'->ORel lim φ' ψ e t v->next (a.put o.dst v) w'):o.wp P a w next Q:=by
 obtain⟨⟨fn,c,h1,h2,h3⟩,hC⟩:=hcall f vs H v H' hc
 unfold Oper.wp
 rw[hrun fn c h1 h2 h3,Oper.upon_enter]
 refine(hC φ w args hH hvs).mono fun en w' ⟨x,φ',he,hr,hH',hx⟩=> ?_
 subst he
 exact hn _ _ _ _ _ hK hH' hx hr
theorem w0d{f:FuncId}{fn:Func}{c:Code}{args:Array Value}(h1:P.funcs[f]? =some fn)(h2:fn.body=some c)(h3:(fn.name== "runtime.NumGoroutine")=false)(w:World):
  (callFunc f args).run P w= .ok (.enter f args) w:=by
 simp only[callFunc,Sem.run_bind,run_program,Result.andThen_ok,h1,h3,h2]
 rfl
theorem Y0Z{x:X}{args:Array Operand}(h:chkXs [x] args.toList=true): ∃y,args= #[y]/\chkX x y=true:=by
 obtain⟨l⟩:=args
 rcases l with _ |⟨y,_ |⟨z,l⟩⟩<;>simp[chkXs]at h
 exact⟨y,rfl,h⟩
theorem q1a{x x':X}{args:Array Operand}(h:chkXs [x,x'] args.toList=true): ∃y y',args= #[y,y']/\chkX x y=true/\chkX x' y'=true:=by
 obtain⟨l⟩:=args
 rcases l with _ |⟨y,_ |⟨z,_ |⟨u,l⟩⟩⟩<;>simp[chkXs]at h
 exact⟨y,z,rfl,h.1,h.2⟩
theorem q0C{t e:TypeId}(h:sliceT P t=some e):P.underlying t=some (.slice e):=by
 unfold sliceT at h
 split at h
 ·rename_i hh;cases h;exact hh
 ·cases h
theorem J0c{t e:TypeId}{kk:KK}(h:mapT P t kk=some e): ∃k d,P.underlying t=some (.map k e)/\P.underlying k=some d/\kk.fits d=true:=by
 unfold mapT at h
 split at h
 ·rename_i hh
  split at h
  ·rename_i d hd
   split at h
   ·rename_i hf;cases h;exact⟨_,d,hh,hd,hf⟩
   ·cases h
  ·cases h
 ·cases h
theorem j0l{t:TypeId}{z:List C}(h:zeroIs P t z=true): ∃i zv,P.info? t=some i/\i.zero=some zv/\chkCs z zv.cells.toList=true/\zv.cells.size=i.size:=by
 unfold zeroIs at h
 split at h
 ·rename_i i hi
  split at h
  ·rename_i v hv
   simp only[bA,beq_iff_eq]at h
   exact⟨i,v,hi,hv,h.1,h.2⟩
  ·cases h
 ·cases h
theorem z1J{t:TypeId}{z:V}(h:zeroV P t z=true): ∃i zv,P.info? t=some i/\i.zero=some zv/\chkV z zv=true:=by
 unfold zeroV at h
 split at h
 ·rename_i i hi
  split at h
  ·rename_i v hv;exact⟨i,v,hi,hv,h⟩
  ·cases h
 ·cases h
theorem w0H{t:TypeId}{n:Nat}(h:szIs P t n=true): ∃i,P.info? t=some i/\i.size=n:=by
 unfold szIs at h
 split at h
 ·rename_i i hi;exact⟨i,hi,by simpa using h⟩
 ·cases h
theorem z0W{t:TypeId}{fs:Array Field}(h:fieldsOf P t=some fs):P.underlying t=some (.struct fs):=by
 unfold fieldsOf at h
 split at h
 ·rename_i hh;cases h;exact hh
 ·cases h
theorem q1b(n:Nat){nk:NK}{x:C}{xv yv:Value}(hx:CRel lim φ x xv){b:Bool}(hb:isNil nk x=some b)(hy:nilOf nk yv=true){t:TypeId}{d:TypeDesc}(ht:P.underlying t=some d)(hd:nk.fits d=true)(w:World):
  (Op.equalIn (n+1) t xv yv).run P w= .ok b w:=by
 have hu:=run_underlying ht w
 unfold Op.equalIn
 simp only[Sem.run_bind,hu,Result.andThen_ok]
 cases nk<;>cases d<;>simp[NK.fits]at hd<;>cases yv<;>simp[nilOf]at hy
 ·rename_i a;cases a<;>simp[nilOf]at hy
  cases hx<;>simp[isNil]at hb<;>subst hb<;>rfl
 ·rename_i a n c;cases a<;>cases n<;>cases c<;>simp[nilOf]at hy
  cases hx<;>simp[isNil]at hb<;>subst hb<;>rfl
 ·rename_i a;cases a<;>simp[nilOf]at hy
  cases hx<;>simp[isNil]at hb<;>subst hb<;>rfl
 ·cases hx<;>simp[isNil]at hb<;>subst hb<;>rfl
 ·cases hx<;>simp[isNil]at hb<;>subst hb<;>rfl
theorem Q1l{nk:NK}{x:C}{xv yv:Value}(hx:CRel lim φ x xv){b:Bool}(hb:isNil nk x=some b)(hy:nilOf nk yv=true){t:TypeId}{d:TypeDesc}(ht:P.underlying t=some d)(hd:nk.fits d=true)(w:World):
  (Op.equal t xv yv).run P w= .ok b w:=q1b 9999 hx hb hy ht hd w
theorem q1c{nk:NK}{x:C}{xv yv:Value}(hx:CRel lim φ x xv){b:Bool}(hb:isNil nk x=some b)(hy:nilOf nk yv=true)(op:BinOp)(t:TypeId)(x':Operand):
  eqGuard op t x' (.const yv) xv yv=pure ():=by
 cases nk<;>cases yv<;>simp[nilOf]at hy<;>cases hx<;>simp[isNil]at hb<;>simp[go_sem]
theorem Q1m{nk:NK}{x:C}{xv yv:Value}(hx:CRel lim φ x xv){b:Bool}(hb:isNil nk x=some b)(hy:nilOf nk yv=true){t:TypeId}(he:(Op.equal t xv yv).run P w= .ok b w):
  (binOp .eql t xv yv).run P w= .ok (.bool b) w/\(binOp .neq t xv yv).run P w= .ok (.bool !b) w:=by
 cases nk<;>cases yv<;>simp[nilOf]at hy<;>cases hx<;>simp[isNil]at hb<;>simp[binOp,he]
theorem J0d(he:ERel lim base φ ψ e a.tmps w){x:Option X}{y:Option Operand}(hc:chkO x y=true){n:Int}(h:evLo e x=some n):(y.map a.eval=none/\n=0)\/ ∃k,y.map a.eval=some (.int k n):=by
 cases x<;>cases y<;>simp[chkO]at hc
 ·simp only[evLo,oI]at h;subst h;exact .inl ⟨rfl,rfl⟩
 ·simp only[evLo]at h
  obtain⟨v,hv,h⟩:=oB.1 h
  obtain⟨k,hk⟩:=z0d (q0i he hc hv) h
  exact .inr ⟨k,by simp[hk]⟩
theorem w0o(he:ERel lim base φ ψ e a.tmps w){x:Option X}{y:Option Operand}(hc:chkO x y=true){n:Option Int}(h:evHi e x=some n):(y.map a.eval=none/\n=none)\/ ∃k m,y.map a.eval=some (.int k m)/\n=some m:=by
 cases x<;>cases y<;>simp[chkO]at hc
 ·simp only[evHi,oI]at h;subst h;exact .inl ⟨rfl,rfl⟩
 ·simp only[evHi]at h
  obtain⟨m,hm,rfl⟩:=oM.1 h
  obtain⟨v,hv,hm⟩:=oB.1 hm
  obtain⟨k,hk⟩:=z0d (q0i he hc hv) hm
  exact .inr ⟨k,m,by simp[hk],rfl⟩
theorem z1K{s r:C}{sv:Value}(hs:CRel lim φ s sv){lo:Int}{hi:Option Int}(h:s.subS lo hi=some r){t:TypeId}(ht:P.underlying t=some .string)
  {l h':Option Value} (hl:(l=none/\lo=0)\/ ∃k,l=some (.int k lo)) (hh:(h'=none/\hi=none)\/ ∃k n,h'=some (.int k n)/\hi=some n):
  ∃v,(Instr.sliceAt t sv l h' none).run P w= .ok v w/\CRel lim φ r v:=by
 cases hs<;>simp[C.subS]at h
 rename_i b
 obtain⟨hb,rfl⟩:=h
 refine⟨_, ?_, .str _⟩
 rcases hl with⟨rfl,rfl⟩ |⟨kl,rfl⟩<;>rcases hh with⟨rfl,rfl⟩ |⟨kh,m,rfl,rfl⟩<;>simp only[Option.getD]at hb⊢
 ·simp[Instr.sliceAt,Instr.slice,Instr.sliceBounds,run_underlying ht]
 ·have:(0<=m/\m<=(b.size:Int)):=by omega
  simp[Instr.sliceAt,Instr.slice,Instr.sliceBounds,Instr.sliceBound,asIntOf,run_underlying ht,this]
 ·have:(0<=lo/\lo<=(b.size:Int)):=by omega
  simp[Instr.sliceAt,Instr.slice,Instr.sliceBounds,Instr.sliceBound,asIntOf,run_underlying ht,this]
 ·have h1:(0<=m/\m<=(b.size:Int)):=by omega
  have h2:(0<=lo/\lo<=max m 0):=by omega
  simp[Instr.sliceAt,Instr.slice,Instr.sliceBounds,Instr.sliceBound,asIntOf,run_underlying ht,h1,h2]
theorem z0v: ∀(ps:List (Nat×Nat×X)) (z:List C) {cs:List C},fillC e z ps=some cs->cs.length=z.length
 | [],z,cs,h=>by simp only[fillC,oI]at h;rw[h]
 |(o,n,x)::ps,z,cs,h=>by
  simp only[fillC]at h
  obtain⟨v,hv,h⟩:=oB.1 h
  obtain⟨xs,hxs,h⟩:=oB.1 h
  split at h
  ·rw[z0v ps _ h,q0G]
  ·cases h
theorem J0e{k:IntKind}{x y:Int}{op:BinOp}{t u:TypeId}{x' y':Operand}(ho:o.op= .binOp op t x' y' u)(hx:a.eval x'= .int k x)(hy:a.eval y'= .int k y){v:Value}
  (hv:(binOp op t (.int k x) (.int k y)).run P w= .ok v w):(execOp a.eval o).run P w= .ok (.value v) w:=by
 simp[execOp,ho,hx,hy,eqGuard_at_int,hv]
set_option maxHeartbeats 4000000 in
theorem z1L(hcall:CallOK lim P call){rop:ROp}(hc:chkOp P rop o=true)(he:ERel lim base φ ψ e a.tmps w)(hH:HRel lim φ H w)(h:evalOp lim call e H rop K=some r)
  (hn: ∀t H' φ' w' v,K t H'=some r->HRel lim φ' H' w'->Ext lim φ w φ' w'->ORel lim φ' ψ e t v->next (a.put o.dst v) w'):o.wp P a w next Q:=by
 have hsame: ∀t v,K t H=some r->ORel lim φ ψ e t v->(execOp a.eval o).run P w= .ok (.value v) w->o.wp P a w next Q:=
  fun t v h1 h2 h3=>q0u h3 (hn _ _ _ _ _ h1 hH (.refl _ _) h2)
 cases rop with
 |mov x=>
  simp only[evalOp]at h
  obtain⟨v,hv,h⟩:=oB.1 h
  simp only[chkOp]at hc
  split at hc
  ·rename_i ho;exact hsame _ _ h (q0R he hc hv) (by simp[execOp,ho])
  ·rename_i ho;exact hsame _ _ h (q0R he hc hv) (by simp[execOp,ho])
  ·cases hc
 |box sz x=>
  simp only[evalOp]at h
  obtain⟨v,hv,h⟩:=oB.1 h
  obtain⟨xs,hxs,h⟩:=oB.1 h
  split at h
  ·rename_i hl
   simp only[chkOp]at hc
   split at hc
   ·rename_i t y ho
    obtain⟨h1,h2⟩:=hH.alloc_cells sz xs (a.eval y).cells t ((q0R he hc hv).cells hxs)
    exact q0u (v:= .pointer (some ⟨w.heap.size,0,none⟩)) (by simp[execOp,ho,Instr.box,newVar,newRow]) (hn _ _ _ _ _ h h1 h2 (.c (.ptr (p:=⟨w.heap.size,0,_,sz⟩) (Phi.add_same _ _ _))))
   ·cases hc
  ·cases h
 |new z=>
  simp only[evalOp]at h
  simp only[chkOp]at hc
  split at hc
  ·rename_i t ho
   obtain⟨i,zv,hi,hz,hcs,hsz⟩:=j0l hc
   obtain⟨h1,h2⟩:=hH.alloc_cells z.length z zv.cells t (q0w hcs)
   exact q0u (v:= .pointer (some ⟨w.heap.size,0,none⟩)) (by simp[execOp,ho,Instr.alloc,newVar,newRow,q0P hi hz]) (hn _ _ _ _ _ h h1 h2 (.c (.ptr (p:=⟨w.heap.size,0,_,z.length⟩) (Phi.add_same _ _ _))))
  ·cases hc
 |build z ps=>
  simp only[evalOp]at h
  obtain⟨cs,hcs,h⟩:=oB.1 h
  simp only[chkOp]at hc
  split at hc
  ·rename_i t qs ho
   simp only[bA]at hc
   obtain⟨hz,hc⟩:=hc
   obtain⟨i,zv,hi,hzv,hzc,hzs⟩:=j0l hz
   split at hc
   ·rename_i fs ht
    simp only[bA,Array.all_eq_true']at hc
    obtain⟨hfs,hp⟩:=hc
    obtain⟨arr,ha,hr⟩:=k0n he _ ps qs.toList z zv.cells hp (q0w hzc) hcs
    have hm:(fs.mapM fun(f:Field)=>(do pure (f.offset,<-sizeOf f.type):Sem (Nat×Nat))).run P w= .ok (fs.map fun(f:Field)=>(f.offset,((P.info? f.type).map (·.size)).getD 0)) w:=by
     refine z1G w _ _ fs fun f hf=> ?_
     obtain⟨j,hj⟩:=Option.isSome_iff_exists.1 (hfs f hf)
     simp[q0A hj,hj]
    have hpl:(fun(i:Nat)=>(fs.map fun(f:Field)=>(f.offset,((P.info? f.type).map (·.size)).getD 0))[i]?)=fun(i:Nat)=>(fs[i]?).bind fun(f:Field)=>(P.info? f.type).map fun j=>(f.offset,j.size):=by
     funext i
     rw[Array.getElem?_map]
     cases hfi:fs[i]? with
     |none=>rfl
     |some f=>
      obtain⟨j,hj⟩:=Option.isSome_iff_exists.1 (hfs f (Array.mem_of_getElem? hfi))
      simp[hj]
    refine hsame _ (.agg arr) h (.agg hr) ?_
    have hq:(qs.map fun(i,x)=>(i,a.eval x)).toList=qs.toList.map fun(i,x)=>(i,a.eval x):=by simp
    simp only[execOp,ho,Instr.build,Sem.run_bind,q0P hi hzv,Result.andThen_ok,run_underlying ht,hm,hq]
    simp only[<-hpl]at ha
    simp only[Sem.run_bind,ha,Sem.run_pure,Result.andThen_ok]
   ·rename_i n el ht
    split at hc
    ·rename_i j hj
     obtain⟨arr,ha,hr⟩:=k0n he _ ps qs.toList z zv.cells hc (q0w hzc) hcs
     refine hsame _ (.agg arr) h (.agg hr) ?_
     have hq:(qs.map fun(i,x)=>(i,a.eval x)).toList=qs.toList.map fun(i,x)=>(i,a.eval x):=by simp
     simp only[execOp,ho,Instr.build,Sem.run_bind,q0P hi hzv,Result.andThen_ok,run_underlying ht,q0A hj,hq,ha,Sem.run_pure]
    ·cases hc
   ·cases hc
  ·cases hc
 |lit sz len z ps=>
  simp only[evalOp]at h
  obtain⟨cs,hcs,h⟩:=oB.1 h
  simp only[chkOp]at hc
  split at hc
  ·rename_i t n qs ho
   simp only[bA,beq_iff_eq]at hc
   obtain⟨rfl,hc⟩:=hc
   split at hc
   ·rename_i el hel
    have ht:=q0C hel
    split at hc
    ·rename_i j hj
     simp only[bA,beq_iff_eq,dE]at hc
     obtain⟨⟨⟨hjs,hle⟩,hz⟩,hp⟩:=hc
     split at hz
     ·rename_i zv hzv
      obtain⟨arr,ha,hr⟩:=k0n he _ ps qs.toList z _ hp (q0w hz) hcs
      obtain⟨h1,h2⟩:=hH.alloc_cells sz cs arr el hr
      refine q0u (v:= .slice (some ⟨w.heap.size,0,none⟩) n n) (w':=w.alloc (.cells arr el)) ?_ (hn _ _ _ _ _ h h1 h2 (.c (.slice (p:=⟨w.heap.size,0,arr.size,sz⟩) (Phi.add_same _ _ _) (nR _) (.inr rfl) (fun _=> .inr ?_))))
      ·have hq:(qs.map fun(i,x)=>(i,a.eval x)).toList=qs.toList.map fun(i,x)=>(i,a.eval x):=by simp
       have hnot: ¬(16777216<n*sz):=by omega
       subst hjs
       by_cases hz0:n*j.size=0
       ·simp only[hz0,iT,Array.range_zero',Array.map_empty]at ha
        simp[execOp,ho,Instr.buildSlice,run_underlying ht,q0A hj,hnot,hz0,hq,Array.range_zero',ha,newRow]
       ·simp only[hz0,iF]at ha
        simp[execOp,ho,Instr.buildSlice,run_underlying ht,q0A hj,q0P hj hzv,hnot,hz0,hq,ha,newRow]
      ·have hl1:=hr.length
       have hl2:=z0v ps z hcs
       have hl3:=(q0w (lim:=lim) (φ:=φ) hz).length
       simp at hl1 hl3⊢;omega
     ·cases hz
    ·cases hc
   ·cases hc
  ·cases hc
 |ld kd x=>
  simp only[evalOp]at h
  simp only[chkOp]at hc
  split at hc
  ·rename_i t y ho
   simp only[bA]at hc
   rcases q0x h with⟨p,o',hpl,h⟩ |⟨i,o',hpl,h⟩
   ·cases h
   ·obtain⟨p,hp,hv⟩:=q0q he hc.2 hpl
    obtain⟨c,hcc,h⟩:=oB.1 h
    have h:=j0w h
    obtain⟨v,hv2,hr⟩:=hH.ld hcc hp
    exact hsame _ v h (.c hr) (by simp[execOp,ho,Instr.loadAt,hv,Instr.sureAddr,z0f hc.1 hv2])
  ·cases hc
 |lds kds x=>
  simp only[evalOp]at h
  simp only[chkOp]at hc
  split at hc
  ·rename_i t y ho
   simp only[bA]at hc
   rcases q0x h with⟨p,o',hpl,h⟩ |⟨i,o',hpl,h⟩
   ·cases h
   ·obtain⟨p,hp,hv⟩:=q0q he hc.2 hpl
    obtain⟨h1,xs,h2,h3,h4⟩:=Heap.lds_ldN _ _ _ h
    have hld: ∃A:Array Value,(loadCells ⟨p.blk,p.sh+o',none⟩ kds.length).run P w= .ok A w/\CsRel lim φ xs A.toList:=by
     rcases h1 with h0 |⟨sz,c,hg,hle⟩
     ·have:xs=[]:=List.eq_nil_of_length_eq_zero (h3.trans h0)
      subst this
      exact⟨#[],by simp[h0,loadCells,loadCellsFrom], .nil⟩
     ·have hN:H.ldN i o' kds.length=some xs:=by
       simp only[Heap.ldN,hg];rw[if_pos hle]
       congr 1
       refine List.ext_getElem? fun j=> ?_
       by_cases hj:j<kds.length
       ·rw[List.getElem?_take_of_lt hj,List.getElem?_drop]
        have hjx:j<xs.length:=by omega
        have:=h4 j xs[j] (by simp[hjx])
        simp only[Heap.ld,hg]at this
        rw[this];simp[hjx]
       ·rw[List.getElem?_eq_none (by simp;omega),List.getElem?_eq_none (by omega)]
      obtain⟨A,hA,hr,_⟩:=hH.ldN (P:=P) hN hp
      exact⟨A,hA,hr⟩
    obtain⟨A,hA,hr⟩:=hld
    exact hsame _ (.agg A) h2 (.agg hr) (by simp[execOp,ho,Instr.loadAt,hv,Instr.sureAddr,q0Y hc.1.1 hc.1.2 hA])
  ·cases hc
 |ldL q kd x=>
  simp only[evalOp]at h
  simp only[chkOp]at hc
  split at hc
  ·rename_i t y ho
   simp only[bA]at hc
   rcases q0x h with⟨p,o',hpl,h⟩ |⟨i,o',hpl,h⟩
   ·obtain⟨hv,cs,h1,h2⟩:=q0q he hc.2 hpl
    split at h
    rotate_left
    ·cases h
    obtain⟨cs',hcs,h⟩:=oB.1 h
    obtain⟨c,hcc,h⟩:=oB.1 h
    have h:=j0w h
    have:=j0i hcs h1;subst this
    obtain⟨v,hv2,hr⟩:=h2.cell hcc
    exact hsame _ v h (.c hr) (by simp[execOp,ho,Instr.loadAt,hv,Instr.sureAddr,z0f hc.1 hv2])
   ·cases h
  ·cases hc
 |ldsL q kds x=>
  simp only[evalOp]at h
  simp only[chkOp]at hc
  split at hc
  ·rename_i t y ho
   simp only[bA]at hc
   rcases q0x h with⟨p,o',hpl,h⟩ |⟨i,o',hpl,h⟩
   ·obtain⟨hv,cs,h1,h2⟩:=q0q he hc.2 hpl
    split at h
    rotate_left
    ·cases h
    obtain⟨cs',hcs,h⟩:=oB.1 h
    have:=j0i hcs h1;subst this
    split at h
    ·rename_i hle
     obtain⟨A,hA,hr⟩:=h2.cells (P:=P) hle
     exact hsame _ (.agg A) h (.agg hr) (by simp[execOp,ho,Instr.loadAt,hv,Instr.sureAddr,q0Y hc.1.1 hc.1.2 hA])
    ·cases h
   ·cases h
  ·cases hc
 |ldN n x=>
  simp only[evalOp]at h
  simp only[chkOp]at hc
  split at hc
  ·rename_i t y ho
   simp only[bA]at hc
   rcases q0x h with⟨p,o',hpl,h⟩ |⟨i,o',hpl,h⟩
   ·obtain⟨hv,cs,h1,h2⟩:=q0q he hc.2 hpl
    obtain⟨cs',hcs,h⟩:=oB.1 h
    have:=j0i hcs h1;subst this
    split at h
    ·rename_i hle
     obtain⟨A,hA,hr⟩:=h2.cells (P:=P) hle
     exact hsame _ (.agg A) h (.agg hr) (by simp[execOp,ho,Instr.loadAt,hv,Instr.sureAddr,q0Y hc.1.1 hc.1.2 hA])
    ·cases h
   ·obtain⟨p,hp,hv⟩:=q0q he hc.2 hpl
    obtain⟨xs,hxs,h⟩:=oB.1 h
    obtain⟨A,hA,hr,_⟩:=hH.ldN (P:=P) hxs hp
    exact hsame _ (.agg A) h (.agg hr) (by simp[execOp,ho,Instr.loadAt,hv,Instr.sureAddr,q0Y hc.1.1 hc.1.2 hA])
  ·cases hc
 |nilck x=>
  simp only[evalOp]at h
  obtain⟨c,hcc,h⟩:=oB.1 h
  simp only[chkOp]at hc
  split at hc
  ·rename_i y ho
   have hr:=q0i he hc hcc
   split at h
   ·rename_i i o'
    generalize hz:a.eval y=z at hr
    cases hr with
    |ptr hp=>exact hsame _ _ h (.c (.ptr hp)) (by simp[execOp,ho,hz])
   ·cases h
  ·cases hc
 |ar op k x y=>
  simp only[evalOp]at h
  obtain⟨n,hx,h⟩:=oB.1 h
  obtain⟨m,hy,h⟩:=oB.1 h
  simp only[chkOp]at hc
  split at hc
  ·rename_i op' t x' y' u ho
   simp only[bA,beq_iff_eq]at hc
   obtain⟨⟨⟨rfl,h1⟩,h2⟩,h3⟩:=hc
   refine hsame _ (.int k (arith op k n m)) h (.c (.int _ _)) (J0e ho (q0H he h2 hx) (q0H he h3 hy) ?_)
   cases op<;>simp[isArith]at h1<;>simp[go_sem,Op.intArith,arith]
  ·cases hc
 |cmp op k x y=>
  simp only[evalOp]at h
  obtain⟨n,hx,h⟩:=oB.1 h
  obtain⟨m,hy,h⟩:=oB.1 h
  simp only[chkOp]at hc
  split at hc
  ·rename_i op' t x' y' u ho
   simp only[bA,beq_iff_eq]at hc
   obtain⟨⟨⟨rfl,h1⟩,h2⟩,h3⟩:=hc
   refine hsame _ (.bool (cmpI op n m)) h (.c (.bool _)) (J0e ho (q0H he h2 hx) (q0H he h3 hy) ?_)
   cases op<;>simp[isCmp]at h1<;>simp[go_sem,cmpI]<;>rfl
  ·cases hc
 |dv op k x y=>
  simp only[evalOp]at h
  obtain⟨n,hx,h⟩:=oB.1 h
  obtain⟨m,hy,h⟩:=oB.1 h
  split at h
  ·cases h
  ·rename_i hm
   simp only[chkOp]at hc
   split at hc
   ·rename_i op' t x' y' u ho
    simp only[bA,beq_iff_eq]at hc
    obtain⟨⟨⟨rfl,h1⟩,h2⟩,h3⟩:=hc
    refine hsame _ (.int k (divI op k n m)) h (.c (.int _ _)) (J0e ho (q0H he h2 hx) (q0H he h3 hy) ?_)
    cases op<;>simp[isDiv]at h1<;>simp[binOp,Op.intDiv,divI,hm]
   ·cases hc
 |bit op k x y=>
  simp only[evalOp]at h
  obtain⟨n,hx,h⟩:=oB.1 h
  obtain⟨m,hy,h⟩:=oB.1 h
  simp only[chkOp]at hc
  split at hc
  ·rename_i op' t x' y' u ho
   simp only[bA,beq_iff_eq]at hc
   obtain⟨⟨⟨rfl,h1⟩,h2⟩,h3⟩:=hc
   refine hsame _ (.int k (bitI op k n m)) h (.c (.int _ _)) (J0e ho (q0H he h2 hx) (q0H he h3 hy) ?_)
   cases op<;>simp[isBit]at h1<;>simp[binOp,Op.intBits,bitI]
  ·cases hc
 |sh op k j x y=>
  simp only[evalOp]at h
  obtain⟨n,hx,h⟩:=oB.1 h
  obtain⟨m,hy,h⟩:=oB.1 h
  split at h
  ·cases h
  ·rename_i hm
   simp only[chkOp]at hc
   split at hc
   ·rename_i op' t x' y' u ho
    simp only[bA,beq_iff_eq]at hc
    obtain⟨⟨⟨rfl,h1⟩,h2⟩,h3⟩:=hc
    refine hsame _ (.int k (shI op k n m)) h (.c (.int _ _)) ?_
    have hx':=q0H he h2 hx
    have hy':=q0H he h3 hy
    cases op<;>simp[isSh]at h1<;>simp[execOp,ho,hx',hy',eqGuard_at_int,binOp,Op.shift,shI,hm]
   ·cases hc
 |eqB ne x y=>
  simp only[evalOp]at h
  obtain⟨n,hx,h⟩:=oB.1 h
  obtain⟨m,hy,h⟩:=oB.1 h
  simp only[chkOp]at hc
  split at hc
  ·rename_i op' t x' y' u ho
   simp only[bA,beq_iff_eq]at hc
   obtain⟨⟨⟨h0,h1⟩,h2⟩,h3⟩:=hc
   have ht:P.underlying t=some .bool:=by
    cases hd:P.underlying t with
    |none=>rw[hd]at h1;cases h1
    |some d=>rw[hd]at h1;cases d<;>simp at h1;rfl
   have hx':=z0c he h2 hx
   have hy':=z0c he h3 hy
   cases ne<;>simp at h0<;>subst h0
   ·exact hsame _ (.bool ((n==m)!=false)) h (.c (.bool _)) (by simp[execOp,ho,hx',hy',eqGuard_at_bool,run_eql_bool w t _ _ ht])
   ·exact hsame _ (.bool ((n==m)!=true)) h (.c (.bool _)) (by simp[execOp,ho,hx',hy',eqGuard_at_bool,run_neq_bool w t _ _ ht])
  ·cases hc
 |eqA ne ks x y=>
  simp only[evalOp]at h
  obtain⟨v,hv,h⟩:=oB.1 h
  obtain⟨xs,hxs,h⟩:=oB.1 h
  obtain⟨u,hu,h⟩:=oB.1 h
  obtain⟨ys,hys,h⟩:=oB.1 h
  obtain⟨b,hb,hK⟩:=oB.1 h
  cases v<;>simp[V.asA]at hxs
  cases u<;>simp[V.asA]at hys
  subst hxs hys
  simp only[chkOp]at hc
  split at hc
  ·rename_i op' t x' y' ty ho
   simp only[bA,bN]at hc
   obtain⟨⟨⟨⟨⟨h0,h1⟩,h2⟩,h3⟩,h4⟩,h5⟩:=hc
   split at h5
   ·rename_i fs hfs
    have hx:=q0R he h1 hv
    have hy:=q0R he h2 hu
    generalize hX:a.eval x'=X at hx
    generalize hY:a.eval y'=Y at hy
    cases hx with
    |agg hx=>
     rename_i XS
     cases hy with
     |agg hy=>
      rename_i YS
      have hfo:P.fieldsOf t=fs:=by unfold Program.fieldsOf;rw[hfs]
      have hrun:(Op.equalIn 10000 t (.agg XS) (.agg YS)).run P w= .ok b w:=by
       rw[run_equalIn_struct w 9999 t XS YS (by rw[hfo];exact hfs) h3,hfo]
       exact w0c fs.toList 0 ks _ _ b h5 hb (fun j x hj=>by
        obtain⟨v,hv,hr⟩:=hx.get hj
        exact⟨v,by rw[Nat.zero_add,<-Array.getElem?_toList];exact hv,hr⟩) (fun j x hj=>by
        obtain⟨v,hv,hr⟩:=hy.get hj
        exact⟨v,by rw[Nat.zero_add,<-Array.getElem?_toList];exact hv,hr⟩)
      cases ne
      ·simp only[bF,iF,beq_iff_eq]at h0
       subst h0
       exact hsame _ (.bool (b !=false)) hK (.c (.bool _)) (by simp[execOp,ho,hX,hY,run_eqGuard_agg w _ _ _ _ _ _ h4,run_eql_struct,hrun])
      ·simp only[iT,beq_iff_eq]at h0
       subst h0
       exact hsame _ (.bool (b !=true)) hK (.c (.bool _)) (by simp[execOp,ho,hX,hY,run_eqGuard_agg w _ _ _ _ _ _ h4,run_neq_struct,hrun])
   ·cases h5
  ·cases hc
 |cmpS op x y=>
  simp only[evalOp]at h
  obtain⟨cx,hcx,h⟩:=oB.1 h
  obtain⟨n,hx,h⟩:=oB.1 h
  obtain⟨cy,hcy,h⟩:=oB.1 h
  obtain⟨m,hy,h⟩:=oB.1 h
  simp only[chkOp]at hc
  split at hc
  ·rename_i op' t x' y' u ho
   simp only[bA,beq_iff_eq]at hc
   obtain⟨⟨⟨rfl,h1⟩,h2⟩,h3⟩:=hc
   have hx':=k0P (q0i he h2 hcx) hx
   have hy':=k0P (q0i he h3 hcy) hy
   refine hsame _ (.bool (cmpStr op n m)) h (.c (.bool _)) ?_
   have hbq:(n.toList==m.toList)=decide (n.toList=m.toList):=by rw[Bool.eq_iff_iff];simp
   cases op<;>simp[isCmp]at h1<;>simp[execOp,ho,hx',hy',eqGuard_at_string,binOp,Op.stringOp,cmpStr,hbq]
  ·cases hc
 |catS x y=>
  simp only[evalOp]at h
  obtain⟨cx,hcx,h⟩:=oB.1 h
  obtain⟨n,hx,h⟩:=oB.1 h
  obtain⟨cy,hcy,h⟩:=oB.1 h
  obtain⟨m,hy,h⟩:=oB.1 h
  split at h
  ·rename_i hroom
   simp only[chkOp]at hc
   split at hc
   ·rename_i op' t x' y' u ho
    simp only[bA,beq_iff_eq]at hc
    obtain⟨⟨rfl,h2⟩,h3⟩:=hc
    have hx':=k0P (q0i he h2 hcx) hx
    have hy':=k0P (q0i he h3 hcy) hy
    refine hsame _ (.string (n++m)) h (.c (.str _)) ?_
    have hroom':n.size+m.size<=2 ^ 36:=hroom
    have hnot: ¬(9223372036854775807<((n.size:Int)+(m.size:Int))):=by omega
    simp[execOp,ho,hx',hy',eqGuard_at_string,binOp,Op.stringOp,hnot]
   ·cases hc
  ·cases h
 |eqN nk ne x=>
  simp only[evalOp]at h
  obtain⟨cx,hcx,h⟩:=oB.1 h
  obtain⟨b,hb,h⟩:=oB.1 h
  simp only[chkOp]at hc
  split at hc
  ·rename_i op' t x' y' u ho
   simp only[bA,beq_iff_eq]at hc
   obtain⟨⟨⟨h0,h1⟩,h2⟩,h3⟩:=hc
   split at h1
   ·rename_i d hd
    split at h3
    ·rename_i yv
     have hr:=q0i he h2 hcx
     have heq:=Q1l hr hb h3 hd h1 w
     have hg:=fun op=>q1c hr hb h3 op t x'
     obtain⟨hb1,hb2⟩:=Q1m hr hb h3 heq
     have hev:a.eval (.const yv)=yv:=rfl
     cases ne<;>simp at h0<;>subst h0
     ·exact hsame _ (.bool (b !=false)) h (.c (.bool _)) (by simp[execOp,ho,hev,hg,hb1])
     ·exact hsame _ (.bool (b !=true)) h (.c (.bool _)) (by simp[execOp,ho,hev,hg,hb2])
    ·cases h3
   ·cases h1
  ·cases hc
 |not x=>
  simp only[evalOp]at h
  obtain⟨b,hb,h⟩:=oB.1 h
  simp only[chkOp]at hc
  split at hc
  ·rename_i t y ho
   exact hsame _ (.bool !b) h (.c (.bool _)) (by simp[execOp,ho,z0c he hc hb,Op.unary])
  ·cases hc
 |neg k x=>
  simp only[evalOp]at h
  obtain⟨b,hb,h⟩:=oB.1 h
  simp only[chkOp]at hc
  split at hc
  ·rename_i t y ho
   exact hsame _ (.int k (k.wrap (0 - b))) h (.c (.int _ _)) (by simp[execOp,ho,q0H he hc hb,Op.unary,Op.intArith])
  ·cases hc
 |conv j k x=>
  simp only[evalOp]at h
  obtain⟨b,hb,h⟩:=oB.1 h
  simp only[chkOp]at hc
  split at hc
  ·rename_i s d y ho
   simp only[bA]at hc
   have hs:P.underlying s=some (.int j):=by
    have:=hc.1.1;unfold isInt at this;split at this
    ·rename_i hh;simp at this;rw[hh,this]
    ·cases this
   have hd:P.underlying d=some (.int k):=by
    have:=hc.1.2;unfold isInt at this;split at this
    ·rename_i hh;simp at this;rw[hh,this]
    ·cases this
   exact hsame _ (.int k (k.wrap b)) h (.c (.int _ _)) (by simp[execOp,ho,q0H he hc.2 hb,convert,run_underlying hs,run_underlying hd,Conv.intToInt])
  ·cases hc
 |fld n x=>
  simp only[evalOp]at h
  simp only[chkOp]at hc
  split at hc
  ·rename_i s y f ho
   simp only[bA]at hc
   obtain⟨hcx,hc⟩:=hc
   split at hc
   ·rename_i fs hfs
    have ht:=z0W hfs
    split at hc
    ·rename_i fd hfd
     simp only[bA,beq_iff_eq]at hc
     obtain⟨hoff,hc⟩:=hc
     split at hc
     ·rename_i i hi
      have hne:i.size≠0:=by simpa using hc
      have hrun: ∀b q,a.eval y= .pointer (some ⟨b,q,none⟩)->(execOp a.eval o).run P w= .ok (.value (.pointer (some ⟨b,q+n,none⟩))) w:=fun b q hv=>by
       simp[execOp,ho,Instr.fieldAt,hv,Instr.sureAddr,run_underlying ht,hfd,fieldPlace,q0A hi,hne,Addr.add_lit,hoff]
      rcases q0x h with⟨p,q,hpl,h⟩ |⟨i',q,hpl,h⟩
      ·obtain⟨hv,cs,h1,h2⟩:=q0q he hcx hpl
       exact hsame _ _ h ⟨rfl,cs,h1⟩ (hrun _ _ hv)
      ·obtain⟨p,hp,hv⟩:=q0q he hcx hpl
       have:=hrun _ _ hv
       rw[show p.sh+q+n=p.sh+(q+n) by omega]at this
       exact hsame _ _ h (.c (.ptr hp)) this
     ·cases hc
    ·cases hc
   ·cases hc
  ·cases hc
 |fldC n x=>
  simp only[evalOp]at h
  obtain⟨v,hv,h⟩:=oB.1 h
  simp only[chkOp]at hc
  split at hc
  ·rename_i s y f ho
   simp only[bA]at hc
   obtain⟨hcx,hc⟩:=hc
   split at hc
   ·rename_i fs hfs
    have ht:=z0W hfs
    split at hc
    ·rename_i fd hfd
     simp only[bA,beq_iff_eq]at hc
     obtain⟨rfl,hc⟩:=hc
     have hr:=q0R he hcx hv
     obtain⟨c,hcc,hK⟩:=oB.1 h
     cases v<;>simp[V.cell]at hcc
     generalize hz:a.eval y=z at hr
     cases hr with
     |agg hr=>
      obtain⟨u,hu,hur⟩:=hr.get hcc
      simp only[Array.getElem?_toList]at hu
      exact hsame _ u hK (.c hur) (by simp[execOp,ho,Instr.field,hz,asAgg,run_underlying ht,hfd,part,j0E hc,hu])
    ·cases hc
   ·cases hc
  ·cases hc
 |fldA n m x=>
  simp only[evalOp]at h
  obtain⟨v,hv,h⟩:=oB.1 h
  simp only[chkOp]at hc
  split at hc
  ·rename_i s y f ho
   simp only[bA]at hc
   obtain⟨hcx,hc⟩:=hc
   split at hc
   ·rename_i fs hfs
    have ht:=z0W hfs
    split at hc
    ·rename_i fd hfd
     simp only[bA,beq_iff_eq]at hc
     obtain⟨⟨rfl,hag⟩,hsz⟩:=hc
     have hr:=q0R he hcx hv
     obtain⟨c,hcc,hK⟩:=oB.1 h
     cases v<;>simp[V.part]at hcc
     obtain⟨hle,rfl⟩:=hcc
     generalize hz:a.eval y=z at hr
     cases hr with
     |agg hr=>
      rename_i arr
      refine hsame _ (.agg (arr.extract fd.offset (fd.offset+m))) hK (.agg ?_) (by simp[execOp,ho,Instr.field,hz,asAgg,run_underlying ht,hfd,part,z0e hag,q0m hsz])
      have:=(hr.drop fd.offset).take m
      simpa[Array.toList_extract,List.extract_eq_take_drop]using this
    ·cases hc
   ·cases hc
  ·cases hc
 |idx sz x i=>
  simp only[evalOp]at h
  obtain⟨s,hs,h⟩:=oB.1 h
  obtain⟨ci,hci,h⟩:=oB.1 h
  obtain⟨n,hn',h⟩:=oB.1 h
  obtain⟨⟨id,o'⟩,hel,h⟩:=oB.1 h
  simp only at h
  simp only[chkOp]at hc
  split at hc
  ·rename_i t y j ho
   simp only[bA]at hc
   obtain⟨⟨h1,h2⟩,hc⟩:=hc
   split at hc
   ·rename_i el hsl
    obtain⟨k,hk⟩:=z0d (q0i he h2 hci) hn'
    obtain⟨v,hv,hr⟩:=z1H (P:=P) (w:=w) (k:=k) (q0i he h1 hs) hel (q0C hsl) hc
    exact hsame _ v h (.c hr) (by simp[execOp,ho,hk,hv])
   ·cases hc
  ·cases hc
 |idxA n sz x i=>
  simp only[evalOp]at h
  obtain⟨ci,hci,h⟩:=oB.1 h
  obtain⟨m,hm,hK⟩:=oB.1 h
  clear h
  split at hK
  ·rename_i hb
   simp only[chkOp]at hc
   split at hc
   ·rename_i t y j ho
    simp only[bA]at hc
    obtain⟨⟨h1,h2⟩,hc⟩:=hc
    split at hc
    ·rename_i n' el ht
     simp only[bA,beq_iff_eq]at hc
     obtain⟨hnn,hz⟩:=hc
     obtain⟨k,hk⟩:=z0d (q0i he h2 hci) hm
     have hrun: ∀b q,a.eval y= .pointer (some ⟨b,q,none⟩)->(execOp a.eval o).run P w= .ok (.value (.pointer (some ⟨b,q+m.toNat*sz,none⟩))) w:=fun b q hv=>by
      simp[execOp,ho,hk,hv,Instr.indexAt,asIntOf,Instr.sureAddr,run_underlying ht,q0m hz,hb.1,hnn,hb.2,Addr.add_lit]
     rcases q0x hK with⟨p,q,hpl,hK⟩ |⟨i',q,hpl,hK⟩
     ·obtain⟨hv,cs,g1,g2⟩:=q0q he h1 hpl
      exact hsame _ _ hK ⟨rfl,cs,g1⟩ (hrun _ _ hv)
     ·obtain⟨p,hp,hv⟩:=q0q he h1 hpl
      have:=hrun _ _ hv
      rw[show p.sh+q+m.toNat*sz=p.sh+(q+m.toNat*sz) by omega]at this
      exact hsame _ _ hK (.c (.ptr hp)) this
    ·cases hc
   ·cases hc
  ·cases hK
 |idxS x i=>
  simp only[evalOp]at h
  obtain⟨s,hs,h⟩:=oB.1 h
  obtain⟨b,hb,h⟩:=oB.1 h
  obtain⟨ci,hci,h⟩:=oB.1 h
  obtain⟨m,hm,h⟩:=oB.1 h
  split at h
  ·rename_i h0
   obtain⟨u,hu,h⟩:=oB.1 h
   simp only[chkOp]at hc
   split at hc
   ·rename_i t y j ho
    simp only[bA]at hc
    obtain⟨⟨h1,h2⟩,hc⟩:=hc
    have ht:P.underlying t=some .string:=by
     cases hd:P.underlying t with
     |none=>rw[hd]at hc;cases hc
     |some d=>rw[hd]at hc;cases d<;>simp at hc;rfl
    obtain⟨k,hk⟩:=z0d (q0i he h2 hci) hm
    have hs':=k0P (q0i he h1 hs) hb
    refine hsame _ (.int .u8 u.toNat) h (.c (.int _ _)) ?_
    simp[execOp,ho,hk,hs',Instr.index,asIntOf,run_underlying ht,h0,hu]
   ·cases hc
  ·cases h
 |idxVC n kd x i=>
  simp only[evalOp]at h
  obtain⟨v,hv,h⟩:=oB.1 h
  obtain⟨ci,hci,h⟩:=oB.1 h
  obtain⟨m,hm,h⟩:=oB.1 h
  split at h
  ·rename_i h0
   obtain⟨c,hcc,hK⟩:=oB.1 h
   have hK:=j0w hK
   simp only[chkOp]at hc
   split at hc
   ·rename_i t y j ho
    simp only[bA]at hc
    obtain⟨⟨h1,h2⟩,hc⟩:=hc
    split at hc
    ·rename_i m' el ht
     simp only[bA,beq_iff_eq]at hc
     obtain⟨⟨rfl,hz1⟩,hsc⟩:=hc
     obtain⟨k,hk⟩:=z0d (q0i he h2 hci) hm
     have hr:=q0R he h1 hv
     cases v<;>simp[V.cell]at hcc
     generalize hz:a.eval y=z at hr
     cases hr with
     |agg hr=>
      obtain⟨u,hu,hur⟩:=hr.get hcc
      simp only[Array.getElem?_toList]at hu
      exact hsame _ u hK (.c hur) (by simp[execOp,ho,hk,hz,Instr.index,asIntOf,run_underlying ht,h0,q0m hz1,part,j0E hsc,hu])
    ·cases hc
   ·cases hc
  ·cases h
 |idxVA n sz x i=>
  simp only[evalOp]at h
  obtain⟨v,hv,h⟩:=oB.1 h
  obtain⟨ci,hci,h⟩:=oB.1 h
  obtain⟨m,hm,h⟩:=oB.1 h
  split at h
  ·rename_i h0
   obtain⟨c,hcc,hK⟩:=oB.1 h
   simp only[chkOp]at hc
   split at hc
   ·rename_i t y j ho
    simp only[bA]at hc
    obtain⟨⟨h1,h2⟩,hc⟩:=hc
    split at hc
    ·rename_i m' el ht
     simp only[bA,beq_iff_eq]at hc
     obtain⟨⟨rfl,hz1⟩,hag⟩:=hc
     obtain⟨k,hk⟩:=z0d (q0i he h2 hci) hm
     have hr:=q0R he h1 hv
     cases v<;>simp[V.part]at hcc
     obtain⟨hle,rfl⟩:=hcc
     generalize hz:a.eval y=z at hr
     cases hr with
     |agg hr=>
      rename_i arr
      refine hsame _ (.agg (arr.extract (m.toNat*sz) (m.toNat*sz+sz))) hK (.agg ?_) (by simp[execOp,ho,hk,hz,Instr.index,asIntOf,run_underlying ht,h0,q0m hz1,part,z0e hag])
      have:=(hr.drop (m.toNat*sz)).take sz
      simpa[Array.toList_extract,List.extract_eq_take_drop]using this
    ·cases hc
   ·cases hc
  ·cases h
 |sub sz x lo hi=>
  simp only[evalOp]at h
  obtain⟨s,hs,h⟩:=oB.1 h
  obtain⟨l,hl,h⟩:=oB.1 h
  obtain⟨u,hu,h⟩:=oB.1 h
  obtain⟨c,hcc,h⟩:=oB.1 h
  simp only[chkOp]at hc
  split at hc
  ·rename_i t y l' h' ho
   simp only[bA]at hc
   obtain⟨⟨⟨h1,h2⟩,h3⟩,hc⟩:=hc
   split at hc
   ·rename_i el hsl
    obtain⟨v,hv,hr⟩:=Q1j hH (q0i he h1 hs) hcc (q0C hsl) hc (J0d he h2 hl) (w0o he h3 hu)
    exact hsame _ v h (.c hr) (by simp[execOp,ho,hv])
   ·cases hc
  ·cases hc
 |subM sz x lo hi mx=>
  simp only[evalOp]at h
  obtain⟨s,hs,h⟩:=oB.1 h
  obtain⟨l,hl,h⟩:=oB.1 h
  obtain⟨u,hu,h⟩:=oB.1 h
  obtain⟨m,hmx,h⟩:=oB.1 h
  obtain⟨c,hcc,h8⟩:=oB.1 h
  simp only[chkOp]at hc
  split at hc
  ·rename_i t y l' h' m' ho
   simp only[bA]at hc
   obtain⟨⟨⟨⟨h1,h2⟩,h3⟩,h4⟩,hc⟩:=hc
   split at hc
   ·rename_i el hsl
    rcases w0o he h3 hu with⟨k1,_⟩ |⟨kh,nh,k1,rfl⟩
    ·cases k1
    rcases w0o he h4 hmx with⟨k2,_⟩ |⟨km,nm,k2,rfl⟩
    ·cases k2
    obtain⟨v,hv,hr⟩:=z1I (kh:=kh) (km:=km) hH (q0i he h1 hs) hcc (q0C hsl) hc (J0d he h2 hl)
    simp only[Option.map_some,oI]at k1 k2
    exact hsame _ v h8 (.c hr) (by simp[execOp,ho,k1,k2,hv])
   ·cases hc
  ·cases hc
 |appZ sz z s n=>
  simp only[evalOp]at h
  obtain⟨cs,hcs,h⟩:=oB.1 h
  obtain⟨m,hm,h8⟩:=oB.1 h
  clear h
  split at h8
  ·rename_i hb
   obtain⟨hnil,hb⟩:=hb
   have hcn:cs= .nilSlice:=by cases cs<;>simp[C.isNilS]at hnil;rfl
   subst hcn
   simp only[chkOp]at hc
   split at hc
   ·rename_i args ats ho
    simp only[bA]at hc
    obtain⟨y,y',rfl,h1,h2⟩:=q1a hc.1
    have hc:=hc.2
    split at hc
    ·rename_i t u hat hau
     split at hc
     ·rename_i el hel
      simp only[bA]at hc
      obtain⟨⟨⟨g1,g2⟩,g3⟩,g4⟩:=hc
      obtain⟨i,hi,hsz⟩:=w0H g1
      obtain⟨i',zv,hi',hzv,hzc,hzs⟩:=j0l g3
      rw[hi]at hi';cases hi'
      have hbb:0<i.bytes/\i.bytes<=2048:=by
       unfold bytesOk at g2;rw[hi]at g2;simpa using g2
      obtain⟨k,hk⟩: ∃k,P.underlying u=some (.int k):=by
       cases hd:P.underlying u with
       |none=>rw[hd]at g4;cases g4
       |some d=>rw[hd]at g4;cases d<;>simp at g4;exact⟨_,rfl⟩
      have hsv:a.eval y= .slice none 0 0:=by
       have:=q0i he h1 hcs
       generalize a.eval y=q at this
       cases this;rfl
      obtain⟨rv,w',φ',f1,f2,f3,f4⟩:=hH.appZ hb.1 hb.2 ats o.type t u el k i zv hat hau (q0C hel) hk hi hzv hsz (q0w hzc) hzs hbb.1 hbb.2
      exact q0u (v:=rv) (by simp[execOp,ho,resolve,invoke,builtin,hsv,q0H he h2 hm,f1]) (hn _ _ _ _ _ h8 f2 f3 (.c f4))
     ·cases hc
    ·cases hc
   ·cases hc
  ·cases h8
 |capN x=>
  simp only[evalOp]at h
  obtain⟨s,hs,h⟩:=oB.1 h
  obtain⟨n,hn',h⟩:=oB.1 h
  simp only[chkOp]at hc
  split at hc
  ·rename_i args ats ho
   simp only[bA]at hc
   obtain⟨y,rfl,h1⟩:=Y0Z hc.1
   have hc:=hc.2
   split at hc
   ·rename_i t hat
    obtain⟨el,hel⟩:=Option.isSome_iff_exists.1 hc
    have ht:=q0C hel
    have hr:=q0i he h1 hs
    refine hsame _ (.int .i64 n) h (.c (.int _ _)) ?_
    generalize hz:a.eval y=z at hr
    cases hr<;>simp[C.capN]at hn'<;>subst hn'<;>simp[execOp,ho,resolve,invoke,builtin,Builtin.cap_,hat,hz,run_underlying ht,goInt]
   ·cases hc
  ·cases hc
 |subS x lo hi=>
  simp only[evalOp]at h
  obtain⟨s,hs,h⟩:=oB.1 h
  obtain⟨l,hl,h⟩:=oB.1 h
  obtain⟨u,hu,h⟩:=oB.1 h
  obtain⟨c,hcc,h⟩:=oB.1 h
  simp only[chkOp]at hc
  split at hc
  ·rename_i t y l' h' ho
   simp only[bA]at hc
   obtain⟨⟨⟨h1,h2⟩,h3⟩,hc⟩:=hc
   have ht:P.underlying t=some .string:=by
    cases hd:P.underlying t with
    |none=>rw[hd]at hc;cases hc
    |some d=>rw[hd]at hc;cases d<;>simp at hc;rfl
   obtain⟨v,hv,hr⟩:=z1K (w:=w) (q0i he h1 hs) hcc ht (J0d he h2 hl) (w0o he h3 hu)
   exact hsame _ v h (.c hr) (by simp[execOp,ho,hv])
  ·cases hc
 |len x=>
  simp only[evalOp]at h
  obtain⟨s,hs,h⟩:=oB.1 h
  obtain⟨n,hn',h⟩:=oB.1 h
  simp only[chkOp]at hc
  split at hc
  ·rename_i args ats ho
   simp only[bA]at hc
   obtain⟨y,rfl,h1⟩:=Y0Z hc.1
   have hc:=hc.2
   split at hc
   ·rename_i t hat
    obtain⟨el,hel⟩:=Option.isSome_iff_exists.1 hc
    have ht:=q0C hel
    have hr:=q0i he h1 hs
    refine hsame _ (.int .i64 n) h (.c (.int _ _)) ?_
    generalize hz:a.eval y=z at hr
    cases hr<;>simp[C.len]at hn'<;>subst hn'<;>simp[execOp,ho,resolve,invoke,builtin,Builtin.len_,hat,hz,run_underlying ht,goInt]
   ·cases hc
  ·cases hc
 |lenS x=>
  simp only[evalOp]at h
  obtain⟨s,hs,h⟩:=oB.1 h
  obtain⟨b,hb,h⟩:=oB.1 h
  simp only[chkOp]at hc
  split at hc
  ·rename_i args ats ho
   simp only[bA]at hc
   obtain⟨y,rfl,h1⟩:=Y0Z hc.1
   have hc:=hc.2
   split at hc
   ·rename_i t hat
    have ht:P.underlying t=some .string:=by
     cases hd:P.underlying t with
     |none=>rw[hd]at hc;cases hc
     |some d=>rw[hd]at hc;cases d<;>simp at hc;rfl
    have hr:=k0P (q0i he h1 hs) hb
    refine hsame _ (.int .i64 b.size) h (.c (.int _ _)) ?_
    simp[execOp,ho,resolve,invoke,builtin,Builtin.len_,hat,hr,run_underlying ht,goInt]
   ·cases hc
  ·cases hc
 |lenM x=>
  simp only[evalOp]at h
  obtain⟨s,hs,h⟩:=oB.1 h
  obtain⟨es,hes,h⟩:=oB.1 h
  simp only[chkOp]at hc
  split at hc
  ·rename_i args ats ho
   simp only[bA]at hc
   obtain⟨y,rfl,h1⟩:=Y0Z hc.1
   have hc:=hc.2
   split at hc
   ·rename_i t hat
    obtain⟨k,el,ht⟩: ∃k el,P.underlying t=some (.map k el):=by
     cases hd:P.underlying t with
     |none=>rw[hd]at hc;cases hc
     |some d=>rw[hd]at hc;cases d<;>simp at hc;exact⟨_,_,rfl⟩
    refine hsame _ (.int .i64 es.length) h (.c (.int _ _)) ?_
    rcases hH.getMap (q0i he h1 hs) hes with⟨hz,rfl⟩ |⟨p,ES,clock,hz,hp,hES⟩
    ·simp[execOp,ho,resolve,invoke,builtin,Builtin.len_,hat,hz,run_underlying ht,goInt]
    ·have:=hES.1
     simp[execOp,ho,resolve,invoke,builtin,Builtin.len_,hat,hz,run_underlying ht,goInt,q0D hp,this]
   ·cases hc
  ·cases hc
 |app sz s x=>
  simp only[evalOp]at h
  obtain⟨cs,hcs,h⟩:=oB.1 h
  obtain⟨cx,hcx,h⟩:=oB.1 h
  obtain⟨xs,hxs,h⟩:=oB.1 h
  obtain⟨n,hn',h⟩:=oB.1 h
  obtain⟨⟨q,H'⟩,happ,h⟩:=oB.1 h
  simp only at h
  simp only[chkOp]at hc
  split at hc
  ·rename_i args ats ho
   simp only[bA]at hc
   obtain⟨y,y',rfl,h1,h2⟩:=q1a hc.1
   have hc:=hc.2
   split at hc
   ·rename_i t u hat hau
    split at hc
    ·rename_i el hel
     simp only[bA]at hc
     obtain⟨⟨⟨g1,g2⟩,g3⟩,g4⟩:=hc
     obtain⟨i,hi,hsz⟩:=w0H g1
     obtain⟨el',hel'⟩:=Option.isSome_iff_exists.1 g3
     simp only[hi]at g4
     split at g4
     ·rename_i z hz
      have hb:0<i.bytes/\i.bytes<=2048:=by
       unfold bytesOk at g2;rw[hi]at g2;simpa using g2
      obtain⟨rv,w',φ',f1,f2,f3,f4⟩:=hH.app (q0i he h1 hcs) (q0i he h2 hcx) hxs hn' happ ats o.type t u el el' i z hat hau (q0C hel) (q0C hel') hi hz hsz (by simpa using g4) hb.1 hb.2
      exact q0u (v:=rv) (by simp[execOp,ho,resolve,invoke,builtin,f1]) (hn _ _ _ _ _ h f2 f3 (.c f4))
     ·cases g4
    ·cases hc
   ·cases hc
  ·cases hc
 |copy sz d s=>
  simp only[evalOp]at h
  obtain⟨cs,hcs,h⟩:=oB.1 h
  obtain⟨cx,hcx,h⟩:=oB.1 h
  obtain⟨xs,hxs,h⟩:=oB.1 h
  obtain⟨n,hn',h⟩:=oB.1 h
  obtain⟨⟨q,H'⟩,happ,h⟩:=oB.1 h
  simp only at h
  simp only[chkOp]at hc
  split at hc
  ·rename_i args ats ho
   simp only[bA]at hc
   obtain⟨y,y',rfl,h1,h2⟩:=q1a hc.1
   have hc:=hc.2
   split at hc
   ·rename_i t hat
    split at hc
    ·rename_i el hel
     obtain⟨i,hi,hsz⟩:=w0H hc
     obtain⟨w',f1,f2,f3⟩:=hH.copy (q0i he h1 hcs) (q0i he h2 hcx) hxs hn' happ ats o.type t el i hat (q0C hel) hi hsz
     exact q0u (v:= .int .i64 q) (by simp[execOp,ho,resolve,invoke,builtin,f1]) (hn _ _ _ _ _ h f2 f3 (.c (.int _ _)))
    ·cases hc
   ·cases hc
  ·cases hc
 |mkS sz z n=>
  simp only[evalOp]at h
  obtain⟨m,hm,h⟩:=oB.1 h
  split at h
  ·rename_i hb
   simp only[chkOp]at hc
   split at hc
   ·rename_i t l c ho
    simp only[bA]at hc
    obtain⟨⟨h1,h2⟩,hc⟩:=hc
    split at hc
    ·rename_i el hel
     simp only[bA]at hc
     obtain⟨⟨g1,g2⟩,g3⟩:=hc
     obtain⟨i,hi,hsz⟩:=w0H g1
     obtain⟨i',zv,hi',hzv,hzc,hzs⟩:=j0l g3
     rw[hi]at hi';cases hi'
     have hbb:0<i.bytes/\i.bytes<=2048:=by
      unfold bytesOk at g2;rw[hi]at g2;simpa using g2
     obtain⟨rv,w',φ',f1,f2,f3,f4⟩:=hH.mkS hb.1 hb.2 t el i zv (q0C hel) hi hzv hsz (q0w hzc) hzs hbb.2
     exact q0u (v:=rv) (by simp[execOp,ho,q0H he h1 hm,q0H he h2 hm,f1]) (hn _ _ _ _ _ h f2 f3 (.c f4))
    ·cases hc
   ·cases hc
  ·cases h
 |mkF f cap=>
  simp only[evalOp]at h
  obtain⟨cs,hcs,h⟩:=oB.1 h
  simp only[chkOp]at hc
  split at hc
  ·rename_i g first captured ho
   simp only[bA,beq_iff_eq]at hc
   obtain⟨⟨rfl,hf⟩,h2⟩:=hc
   have hf':first= #[]:=by simpa using hf
   subst hf'
   exact hsame _ (.func (.func f) #[] (captured.map a.eval)) h (.c (.func .nil (by simpa using W0R he h2 hcs))) (by simp[execOp,ho,Instr.makeFunc])
  ·cases hc
 |mkM=>
  simp only[evalOp]at h
  simp only[chkOp]at hc
  split at hc
  ·rename_i t ho
   obtain⟨h1,h2⟩:=hH.alloc (.map []) (.map #[] 0) 0 0 (fun sz' c' e'=>by cases e') (fun es e'=>by cases e';exact⟨#[],0,rfl,⟨rfl,fun j k v hj=>by simp at hj⟩,fun e he=>by simp at he⟩)
   exact q0u (v:= .map (some w.heap.size)) (by simp[execOp,ho,Instr.makeMap]) (hn _ _ _ _ _ h h1 h2 (.c (.map (p:=⟨w.heap.size,0,0,0⟩) (Phi.add_same _ _ _))))
  ·cases hc
 |look kk z ok kd m k=>
  simp only[evalOp]at h
  obtain⟨cm,hcm,h⟩:=oB.1 h
  obtain⟨ck,hck,h⟩:=oB.1 h
  obtain⟨es,hes,h⟩:=oB.1 h
  obtain⟨q,hq,h⟩:=oB.1 h
  have h:=k0l h
  simp only[chkOp]at hc
  split at hc
  ·rename_i t m' k' ok' ho
   simp only[bA,beq_iff_eq]at hc
   obtain⟨⟨⟨rfl,h1⟩,h2⟩,hc⟩:=hc
   split at hc
   ·rename_i el hel
    obtain⟨kT,d,g1,g2,g3⟩:=J0c hel
    obtain⟨i,zv,hi,hzv,hzc⟩:=z1J hc
    obtain⟨rv,f1,f2⟩:=hH.look (q0i he h1 hcm) (q0i he h2 hck) hes hq (W0Q hzc) t kT el g1 g2 g3 hi hzv ok
    exact hsame _ rv h f2 (by simp[execOp,ho,f1])
   ·cases hc
  ·cases hc
 |mset kk m k v=>
  simp only[evalOp]at h
  obtain⟨cm,hcm,h⟩:=oB.1 h
  obtain⟨ck,hck,h⟩:=oB.1 h
  obtain⟨cv,hcv,h⟩:=oB.1 h
  obtain⟨H',hs,h⟩:=oB.1 h
  simp only[chkOp]at hc
  split at hc
  ·rename_i t m' k' v' ho
   simp only[bA]at hc
   obtain⟨⟨⟨h1,h2⟩,h3⟩,hc⟩:=hc
   obtain⟨el,hel⟩:=Option.isSome_iff_exists.1 hc
   obtain⟨kT,d,g1,g2,g3⟩:=J0c hel
   obtain⟨w',f1,f2,f3⟩:=hH.mset (q0i he h1 hcm) (q0i he h2 hck) (q0R he h3 hcv) hs t kT el g1 g2 g3
   exact j0R (by simp[execOp,ho,f1]) (hn _ _ _ _ _ h f2 f3 trivial)
  ·rename_i t m' k' v' ho
   simp only[bA]at hc
   obtain⟨⟨⟨h1,h2⟩,h3⟩,hc⟩:=hc
   obtain⟨el,hel⟩:=Option.isSome_iff_exists.1 hc
   obtain⟨kT,d,g1,g2,g3⟩:=J0c hel
   obtain⟨w',f1,f2,f3⟩:=hH.mset (q0i he h1 hcm) (q0i he h2 hck) (q0R he h3 hcv) hs t kT el g1 g2 g3
   exact j0R (by simp[execOp,ho,f1]) (hn _ _ _ _ _ h f2 f3 trivial)
  ·cases hc
 |clr z x=>
  simp only[evalOp]at h
  obtain⟨cs,hcs,h⟩:=oB.1 h
  obtain⟨H',hcl,h⟩:=oB.1 h
  simp only[chkOp]at hc
  split at hc
  ·rename_i args ats ho
   simp only[bA]at hc
   obtain⟨y,rfl,h1⟩:=Y0Z hc.1
   have hc:=hc.2
   split at hc
   ·rename_i t hat
    split at hc
    ·rename_i el hel
     obtain⟨i,zv,hi,hzv,hzc,hzs⟩:=j0l hc
     obtain⟨w',f1,f2,f3⟩:=hH.clr (q0i he h1 hcs) hcl ats o.type t el i zv hat (q0C hel) hi hzv (q0w hzc)
     exact q0u (v:= .tuple #[]) (by simp[execOp,ho,resolve,invoke,builtin,f1]) (hn _ _ _ _ _ h f2 f3 trivial)
    ·cases hc
   ·cases hc
  ·cases hc
 |mdel kk m k=>
  simp only[evalOp]at h
  obtain⟨cm,hcm,h⟩:=oB.1 h
  obtain⟨ck,hck,h⟩:=oB.1 h
  obtain⟨H',hs,h⟩:=oB.1 h
  simp only[chkOp]at hc
  split at hc
  ·rename_i args ats ho
   simp only[bA]at hc
   obtain⟨y,y',rfl,h1,h2⟩:=q1a hc.1
   have hc:=hc.2
   split at hc
   ·rename_i t hat
    obtain⟨el,hel⟩:=Option.isSome_iff_exists.1 hc
    obtain⟨kT,d,g1,g2,g3⟩:=J0c hel
    obtain⟨w',f1,f2,f3⟩:=hH.mdel (q0i he h1 hcm) (q0i he h2 hck) hs ats o.type t kT el hat g1 g2 g3
    exact q0u (v:= .tuple #[]) (by simp[execOp,ho,resolve,invoke,builtin,f1]) (hn _ _ _ _ _ h f2 f3 trivial)
   ·cases hc
  ·cases hc
 |call f kd args=>
  simp only[evalOp]at h
  obtain⟨vs,hvs,h⟩:=oB.1 h
  obtain⟨⟨v,H'⟩,hcv,h⟩:=oB.1 h
  have h:=k0l h
  simp only[chkOp]at hc
  split at hc
  ·rename_i g ys ats ho
   simp only[bA,beq_iff_eq]at hc
   obtain⟨rfl,hc⟩:=hc
   have hr:=K0b he hc hvs
   exact Y0Y hcall (args:=ys.map a.eval) hH (by simpa using hr) hcv h (fun fn c h1 h2 h3=>by
    simp[execOp,ho,resolve,Deferred.ofValue,Act.eval,invoke,w0d h1 h2 h3]) hn
  ·cases hc
 |callV x kd args=>
  simp only[evalOp]at h
  obtain⟨cx,hcx,h⟩:=oB.1 h
  obtain⟨⟨f,first,cap⟩,hf,h⟩:=oB.1 h
  obtain⟨vs,hvs,h⟩:=oB.1 h
  obtain⟨⟨v,H'⟩,hcv,h⟩:=oB.1 h
  have hK:=k0l h
  simp only[chkOp]at hc
  split at hc
  ·rename_i y ys ats ho
   simp only[bA]at hc
   have hr:=K0b he hc.2 hvs
   have hx:=q0i he hc.1 hcx
   generalize hz:a.eval y=z at hx
   cases hx<;>simp[C.asF]at hf
   rename_i f' fa fc first' cap' k1 k2
   obtain⟨e1,e2,e3⟩:=hf
   subst e1 e2 e3
   exact Y0Y hcall (args:=first'++ys.map a.eval++cap') hH (by simpa using(k1.vs.append hr).append k2.vs) hcv hK (fun fn c h1 h2 h3=>by
    simp[execOp,ho,resolve,hz,Deferred.ofValue,invoke,w0d h1 h2 h3]) hn
  ·cases hc
 |chkd o' d p ag ks=>simp[chkOp]at hc
 |stH n x y=>
  simp only[evalOp]at h
  obtain⟨v,hv,h⟩:=oB.1 h
  obtain⟨xs,hxs,h⟩:=oB.1 h
  simp only[chkOp]at hc
  split at h
  ·cases h
  ·rename_i hlen
   simp only[ne_eq,Decidable.not_not]at hlen
   split at hc
   ·rename_i t b' y' hst
    simp only[bA]at hc
    obtain⟨⟨hsz,hcb⟩,hcx⟩:=hc
    have hr:=(q0R he hcx hv).cells hxs
    have hl:=hr.length
    have hfit: ¬((a.eval y').cells.size≠n):=by simp at hl⊢;omega
    rcases q0x h with⟨p,o',hpl,h⟩ |⟨j,o',hpl,h⟩
    ·cases h
    ·obtain⟨p,hp,hav⟩:=q0q he hcb hpl
     obtain⟨H',hst',h⟩:=oB.1 h
     obtain⟨w',g1,g2,g3⟩:=hH.st (P:=P) hst' hr hp
     exact j0R (w':=w') (by simp[execOp,hst,Instr.storeAt,hav,Instr.sureAddr,storeVar,q0m hsz,hfit,g1]) (hn _ _ _ _ _ h g2 g3 trivial)
   ·cases hc
 |ext kd x i=>
  simp only[evalOp]at h
  obtain⟨v,hv,h⟩:=oB.1 h
  simp only[chkOp]at hc
  split at hc
  ·rename_i y j ho
   simp only[bA,beq_iff_eq]at hc
   obtain⟨rfl,hc⟩:=hc
   have hr:=q0R he hc hv
   obtain⟨u,hu,h⟩:=oB.1 h
   have hK:=k0l h
   cases v<;>simp[V.ext]at hu
   generalize hz:a.eval y=z at hr
   cases hr with
   |tuple hr=>
    obtain⟨q,hq,hqr⟩:=hr.get hu
    simp only[Array.getElem?_toList]at hq
    exact hsame _ q hK hqr (by simp[execOp,ho,Instr.extract,hz,hq])
  ·cases hc
 |mkI t x=>
  simp only[evalOp]at h
  obtain⟨v,hv,h⟩:=oB.1 h
  simp only[chkOp]at hc
  split at hc
  ·rename_i u y ho
   simp only[bA,beq_iff_eq]at hc
   obtain⟨⟨rfl,h1⟩,h2⟩:=hc
   have hr:=q0R he h1 hv
   have hrun:(execOp a.eval o).run P w= .ok (.value (.iface t (a.eval y))) w:=by
    have:(Instr.makeInterface t (a.eval y)).run P w= .ok (.iface t (a.eval y)) w:=by
     refine run_makeInterface w t _ ?_
     unfold Program.concrete
     split at h2
     ·cases h2
     ·cases h2
     ·rename_i g1 g2
      split
      ·rename_i ms hms;exact absurd hms (g1 ms)
      ·rename_i hms;exact absurd hms g2
      ·rfl
    simp[execOp,ho,this]
   generalize hz:a.eval y=z at hr hrun
   split at h
   ·cases hr with
    |c hr=>exact hsame _ _ h (.c (.ifaceC hr)) hrun
   ·cases hr with
    |agg hr=>exact hsame _ _ h (.c (.ifaceA hr)) hrun
   ·cases h
  ·cases hc
 |mm mx k x y=>
  simp only[evalOp]at h
  obtain⟨n,hx,h⟩:=oB.1 h
  obtain⟨m,hy,h⟩:=oB.1 h
  simp only[chkOp]at hc
  split at hc
  ·rename_i b args ats ho
   simp only[bA]at hc
   obtain⟨y1,y2,rfl,h1,h2⟩:=q1a hc.1
   have hc:=hc.2
   have e1:=q0H he h1 hx
   have e2:=q0H he h2 hy
   cases mx
   ·simp only[bF,iF]at hc h
    cases b<;>simp at hc
    exact hsame _ _ h (.c (.int _ _)) (by simp[execOp,ho,resolve,invoke,builtin,e1,e2,run_min_int2])
   ·simp only[iT]at hc h
    cases b<;>simp at hc
    exact hsame _ _ h (.c (.int _ _)) (by simp[execOp,ho,resolve,invoke,builtin,e1,e2,run_max_int2])
  ·cases hc
end one
end Go.Proofs.Ytglkhoamnmiolaa.Vm
