/-
  THE ABSTRACT MACHINE: values, heap, resolved programs, their meaning (definitions only).
-/
import Derived.Calls
import Derived.Below
namespace Go.Proofs.Ytnnjklkfcleleaa.Vm
open Go
set_option linter.unusedVariables false
set_option linter.unusedSimpArgs false

/-- A scalar value (what one cell holds). Addresses name abstract objects. -/
inductive C where
  | junk
  | bool (b : Bool)
  | int (k : IntKind) (n : Int)
  | str (s : ByteArray)
  | nilPtr
  | ptr (i o : Nat)
  | nilSlice
  | slice (i o n : Nat)
  | nilMap
  | map (i : Nat)
  | func (f : FuncId) (first cap : List C)
  | nilFunc
  | iface (t : TypeId) (agg : Bool) (cs : List C)
  | nilIface
  deriving Inhabited

inductive V where
  | c (x : C)
  | agg (cs : List C)
  | tuple (vs : List V)
  deriving Inhabited

inductive T where
  | poison
  | val (v : V)
  | loc (cs : List C)
  | laddr (q o : Nat)
  deriving Inhabited

abbrev Env := List T

def Env.get (e : Env) (p : Nat) : T := e.getD p .poison
/-- forget addresses into the local variable of slot p -/
def T.purge (p : Nat) : T → T
  | .laddr q o => if q = p then .poison else .laddr q o
  | t => t
def Env.put (e : Env) (p : Nat) (t : T) : Env :=
  match e.get p with
  | .loc _ => (e.map (T.purge p)).set p (t.purge p)
  | _ => e.set p (t.purge p)
def Env.kill : List Nat → Env → Env
  | [], e => e
  | p :: ps, e => Env.kill ps (Env.put e p .poison)

/-- at the start of a region that draws its order: the slots ks are forgotten, with all addresses into them; of the slots ts the local variables and all addresses into them -/
def T.clean (ks ts : List Nat) (p : Nat) (t : T) : T :=
  if ks.contains p then .poison else match t with
  | .laddr q o => if ks.contains q || ts.contains q then .poison else .laddr q o
  | .loc cs => if ts.contains p then .poison else .loc cs
  | t => t
def Env.cleanFrom (ks ts : List Nat) : Nat → Env → Env
  | _, [] => []
  | p, t :: e => t.clean ks ts p :: Env.cleanFrom ks ts (p + 1) e
def Env.clean (ks ts : List Nat) (e : Env) : Env := Env.cleanFrom ks ts 0 e

inductive Obj where
  | cells (sz : Nat) (c : List C)
  | map (es : List (C × V))
  deriving Inhabited

structure Heap where
  next : Nat
  get : Nat → Option Obj

def Heap.alloc (H : Heap) (o : Obj) : Heap := ⟨H.next + 1, fun i => if i = H.next then some o else H.get i⟩
def Heap.put (H : Heap) (i : Nat) (o : Obj) : Heap := ⟨H.next, fun j => if j = i then some o else H.get j⟩
def Heap.kill (H : Heap) (i : Nat) : Heap := ⟨H.next, fun j => if j = i then none else H.get j⟩

def Heap.ld (H : Heap) (i o : Nat) : Option C :=
  match H.get i with
  | some (.cells _ c) => c[o]?
  | _ => none
def Heap.ldN (H : Heap) (i o n : Nat) : Option (List C) :=
  match H.get i with
  | some (.cells _ c) => if o + n ≤ c.length then some ((c.drop o).take n) else none
  | _ => none
/-- cells written over a list from a place on -/
def splice (c : List C) (o : Nat) : List C → List C
  | [] => c
  | x :: xs => splice (c.set o x) (o + 1) xs
def Heap.st (lim : Nat) (H : Heap) (i o : Nat) (xs : List C) : Option Heap :=
  match H.get i with
  | some (.cells sz c) => if lim ≤ i ∧ o + xs.length ≤ c.length then some (H.put i (.cells sz (splice c o xs))) else none
  | _ => none

def V.asC : V → Option C
  | .c x => some x
  | _ => none
def V.cells : V → Option (List C)
  | .c x => some [x]
  | .agg cs => some cs
  | .tuple _ => none
def C.asB : C → Option Bool
  | .bool b => some b
  | _ => none
def C.asI (k : IntKind) : C → Option Int
  | .int k' n => if k' = k then some n else none
  | _ => none
def C.asS : C → Option ByteArray
  | .str s => some s
  | _ => none
/-- an index of whatever kind -/
def C.asIx : C → Option Int
  | .int _ n => some n
  | _ => none

/-- of what kind a cell, a value is said to be -/
inductive K0 where
  | c | int (k : IntKind) | bool | str
  deriving Inhabited
inductive KD where
  | any
  | one (k : K0)
  | agg (ks : List K0)
  deriving Inhabited
def V.ext (v : V) (i : Nat) : Option V :=
  match v with
  | .tuple vs => vs[i]?
  | _ => none
def V.cell (v : V) (o : Nat) : Option C :=
  match v with
  | .agg cs => cs[o]?
  | _ => none
def V.part (v : V) (o n : Nat) : Option (List C) :=
  match v with
  | .agg cs => if o + n ≤ cs.length then some ((cs.drop o).take n) else none
  | _ => none
def V.asA (v : V) : Option (List C) :=
  match v with
  | .agg cs => some cs
  | _ => none
def C.asF (x : C) : Option (FuncId × List C × List C) :=
  match x with
  | .func f a b => some (f, a, b)
  | _ => none
def V.asP (v : V) : Option (Nat × Nat) := v.asC.bind fun
  | .ptr i o => some (i, o)
  | _ => none
def K0.take {R : Type} : K0 → C → (C → Option R) → Option R
  | .c, x, K => K x
  | .int k, x, K => (x.asI k).bind fun n => K (.int k n)
  | .bool, x, K => x.asB.bind fun b => K (.bool b)
  | .str, x, K => x.asS.bind fun b => K (.str b)
def headC : List C → Option C
  | x :: _ => some x
  | [] => none
def takes {R : Type} : List K0 → List C → (List C → Option R) → Option R
  | [], xs, K => if xs.length = 0 then K [] else none
  | k :: ks, xs, K => (headC xs).bind fun x => k.take x fun y => takes ks (xs.drop 1) fun ys => K (y :: ys)
def KD.take {R : Type} : KD → V → (V → Option R) → Option R
  | .any, v, K => K v
  | .one k, v, K => v.asC.bind fun x => k.take x fun y => K (.c y)
  | .agg ks, v, K => v.asA.bind fun xs => takes ks xs fun ys => K (.agg ys)
/-- cell by cell -/
def Heap.lds {R : Type} (H : Heap) (i o : Nat) : List K0 → (List C → Option R) → Option R
  | [], K => K []
  | kd :: kds, K => (H.ld i o).bind fun x => kd.take x fun y => H.lds i (o + 1) kds fun xs => K (y :: xs)
inductive X where
  | t (p : Nat)
  | c (v : V)
  | f (g : FuncId)
  deriving Inhabited
def ev (e : Env) : X → Option V
  | .t p => match e.get p with
    | .val v => some v
    | _ => none
  | .c v => some v
  | .f g => some (.c (.func g [] []))
def evC (e : Env) (x : X) : Option C := (ev e x).bind V.asC
def evI (k : IntKind) (e : Env) (x : X) : Option Int := (evC e x).bind (C.asI k)
def evB (e : Env) (x : X) : Option Bool := (evC e x).bind C.asB
def evs (e : Env) : List X → Option (List V)
  | [] => some []
  | x :: xs => (ev e x).bind fun v => (evs e xs).bind fun vs => some (v :: vs)
def evCs (e : Env) : List X → Option (List C)
  | [] => some []
  | x :: xs => (evC e x).bind fun v => (evCs e xs).bind fun vs => some (v :: vs)

def evLo (e : Env) : Option X → Option Int
  | none => some 0
  | some l => (evC e l).bind C.asIx
def evHi (e : Env) : Option X → Option (Option Int)
  | none => some none
  | some h => ((evC e h).bind C.asIx).map some
/-- parts laid over zero cells: each part at its place, of its size -/
def fillC (e : Env) : List C → List (Nat × Nat × X) → Option (List C)
  | z, [] => some z
  | z, (o, n, x) :: ps => (ev e x).bind fun v => v.cells.bind fun xs => if xs.length = n ∧ o + n ≤ z.length then fillC e (splice z o xs) ps else none

/-- the kinds of what may be nil -/
inductive NK where
  | ptr | slice | map | func | iface
  deriving Inhabited
/-- the kinds of keys -/
inductive KK where
  | int | str | bool
  deriving Inhabited
inductive ROp where
  | mov (x : X)
  | box (sz : Nat) (x : X)
  | new (z : List C)
  | build (z : List C) (parts : List (Nat × Nat × X))
  | lit (sz len : Nat) (z : List C) (parts : List (Nat × Nat × X))
  | ld (kd : K0) (a : X)
  | lds (kds : List K0) (a : X)
  | ldN (n : Nat) (a : X)
  | ldL (kd : K0) (a : X)
  | ldsL (kds : List K0) (a : X)
  | nilck (x : X)
  | ar (op : BinOp) (k : IntKind) (x y : X)
  | cmp (op : BinOp) (k : IntKind) (x y : X)
  | dv (op : BinOp) (k : IntKind) (x y : X)
  | bit (op : BinOp) (k : IntKind) (x y : X)
  | sh (op : BinOp) (k j : IntKind) (x y : X)
  | eqB (ne : Bool) (x y : X)
  | cmpS (op : BinOp) (x y : X)
  | catS (x y : X)
  | eqN (nk : NK) (ne : Bool) (x : X)
  | not (x : X)
  | neg (k : IntKind) (x : X)
  | conv (j k : IntKind) (x : X)
  | fld (o : Nat) (a : X)
  | fldC (o : Nat) (x : X)
  | fldA (o n : Nat) (x : X)
  | idx (sz : Nat) (x i : X)
  | idxA (n sz : Nat) (a i : X)
  | idxS (x i : X)
  | sub (sz : Nat) (x : X) (lo hi : Option X)
  | subS (x : X) (lo hi : Option X)
  | len (x : X)
  | lenS (x : X)
  | lenM (x : X)
  | app (sz : Nat) (s x : X)
  | copy (sz : Nat) (d s : X)
  | clr (z : List C) (x : X)
  | mkS (sz : Nat) (z : List C) (n : X)
  | mkF (f : FuncId) (cap : List X)
  | mkM
  | look (kk : KK) (z : V) (ok : Bool) (kd : KD) (m k : X)
  | mset (kk : KK) (m k v : X)
  | mdel (kk : KK) (m k : X)
  | call (f : FuncId) (kd : KD) (args : List X)
  | callV (x : X) (kd : KD) (args : List X)
  | ext (kd : KD) (x : X) (i : Nat)
  | mkI (t : TypeId) (x : X)
  | mm (isMax : Bool) (k : IntKind) (x y : X)
  deriving Inhabited

inductive Ops where
  | nil
  | op (dst : Option Nat) (o : ROp) (rest : Ops)
  | lbox (n p : Nat) (x : X) (rest : Ops)
  | lnew (p : Nat) (z : List C) (rest : Ops)
  | st (hp : Bool) (n : Nat) (a x : X) (rest : Ops)
  | logic (and : Bool) (c : Nat) (inner : Ops) (keep : X) (dst : Nat) (rest : Ops)
  deriving Inhabited

/-! ### the operations -/
abbrev CallT := FuncId → List V → Heap → Option (V × Heap)

/-- where an address operand leads: a local variable's cells, or an object -/
inductive Where where
  | loc (p o : Nat)
  | obj (i o : Nat)
def place (e : Env) : X → Option Where
  | .t p => match e.get p with
    | .loc _ => some (.loc p 0)
    | .laddr q o => some (.loc q o)
    | .val (.c (.ptr i o)) => some (.obj i o)
    | _ => none
  | .c (.c (.ptr i o)) => some (.obj i o)
  | _ => none
def placeK {R : Type} (e : Env) (x : X) (Kl : Nat → Nat → Option R) (Ko : Nat → Nat → Option R) : Option R :=
  match x with
  | .t p => match e.get p with
    | .loc _ => Kl p 0
    | .laddr q o => Kl q o
    | .val v => v.asP.bind fun a => Ko a.1 a.2
    | .poison => none
  | .c v => v.asP.bind fun a => Ko a.1 a.2
  | .f _ => none
def locCells (e : Env) (p : Nat) : Option (List C) :=
  match e.get p with
  | .loc cs => some cs
  | _ => none
def Where.shift (d : Nat) : Where → T
  | .loc p o => .laddr p (o + d)
  | .obj i o => .val (.c (.ptr i (o + d)))

def arith (op : BinOp) (k : IntKind) (x y : Int) : Int :=
  match op with
  | .add => k.wrap (x + y)
  | .sub => k.wrap (x - y)
  | _ => k.wrap (x * y)
def cmpI (op : BinOp) (x y : Int) : Bool :=
  match op with
  | .eql => decide (x = y)
  | .neq => !decide (x = y)
  | .lss => decide (x < y)
  | .leq => decide (x ≤ y)
  | .gtr => decide (y < x)
  | _ => decide (y ≤ x)
def divI (op : BinOp) (k : IntKind) (x y : Int) : Int :=
  match op with
  | .quo => k.wrap (x.tdiv y)
  | _ => x.tmod y
def bitI (op : BinOp) (k : IntKind) (x y : Int) : Int :=
  let a := BitVec.ofInt k.bits x
  let b := BitVec.ofInt k.bits y
  k.wrap (match op with
    | .and => a &&& b
    | .or => a ||| b
    | .xor => a ^^^ b
    | _ => a &&& ~~~b).toNat
def shI (op : BinOp) (k : IntKind) (x y : Int) : Int :=
  let n := min y.toNat k.bits
  match op with
  | .shl => k.wrap (x * 2 ^ n)
  | _ => x.fdiv (2 ^ n)
def isNil : NK → C → Option Bool
  | .ptr, .nilPtr => some true
  | .ptr, .ptr _ _ => some false
  | .slice, .nilSlice => some true
  | .slice, .slice _ _ _ => some false
  | .map, .nilMap => some true
  | .map, .map _ => some false
  | .func, .nilFunc => some true
  | .func, .func _ _ _ => some false
  | .iface, .nilIface => some true
  | .iface, .iface _ _ _ => some false
  | _, _ => none
def cmpStr (op : BinOp) (x y : ByteArray) : Bool :=
  let eq := decide (x.toList = y.toList)
  let lt := Op.bytesLess x.toList y.toList
  match op with
  | .eql => eq
  | .neq => !eq
  | .lss => lt
  | .leq => lt || eq
  | .gtr => !(lt || eq)
  | _ => !lt

/-- the length of a slice -/
def C.len : C → Option Nat
  | .nilSlice => some 0
  | .slice _ _ n => some n
  | _ => none
/-- the place of an element of a slice -/
def C.elem (sz : Nat) (s : C) (i : Int) : Option (Nat × Nat) :=
  match s with
  | .slice id o n => if 0 ≤ i ∧ i < n then some (id, o + i.toNat * sz) else none
  | _ => none
def Heap.szBad (H : Heap) (id sz : Nat) : Bool :=
  match H.get id with
  | some (.cells z _) => z != sz
  | _ => true
/-- a part of a slice (the high end within the length); of a new object only by its own size of elements -/
def Heap.sub (lim : Nat) (H : Heap) (sz : Nat) (s : C) (lo : Int) (hi : Option Int) : Option C :=
  match s with
  | .slice id o n =>
    if lim ≤ id ∧ H.szBad id sz = true then none else
    if 0 ≤ lo ∧ lo ≤ hi.getD n ∧ hi.getD n ≤ n then some (.slice id (o + lo.toNat * sz) (hi.getD n - lo).toNat) else none
  | .nilSlice => if lo = 0 ∧ hi.getD 0 = 0 then some .nilSlice else none
  | _ => none
def C.subS (s : C) (lo : Int) (hi : Option Int) : Option C :=
  match s with
  | .str b => if 0 ≤ lo ∧ lo ≤ hi.getD b.size ∧ hi.getD b.size ≤ b.size then some (.str (b.extract lo.toNat (hi.getD b.size).toNat)) else none
  | _ => none
/-- all cells of a slice -/
def Heap.cellsOf (H : Heap) (sz : Nat) : C → Option (List C)
  | .slice i o n => H.ldN i o (n * sz)
  | .nilSlice => some []
  | _ => none
def roomy (n : Nat) : Prop := n ≤ 2 ^ 36
instance (n : Nat) : Decidable (roomy n) := inferInstanceAs (Decidable (n ≤ 2 ^ 36))
/-- append: the old object is dead, a new one bears what the slice held and what is added -/
def Heap.app (lim : Nat) (H : Heap) (sz : Nat) (s : C) (xs : List C) (n : Nat) : Option (C × Heap) :=
  match s with
  | .nilSlice => if n = 0 then some (.nilSlice, H) else if roomy n then some (.slice H.next 0 n, H.alloc (.cells sz xs)) else none
  | .slice i o m =>
    match H.get i with
    | some (.cells sz' c) =>
      if lim ≤ i ∧ sz' = sz ∧ o + m * sz ≤ c.length ∧ roomy (m + n) then
        some (.slice H.next 0 (m + n), (H.kill i).alloc (.cells sz ((c.drop o).take (m * sz) ++ xs)))
      else none
    | _ => none
  | _ => none
/-- copy into a slice -/
def Heap.copy (lim : Nat) (H : Heap) (sz : Nat) (d : C) (xs : List C) (n : Nat) : Option (Nat × Heap) :=
  match d with
  | .nilSlice => some (0, H)
  | .slice i o m => (H.st lim i o (xs.take (Nat.min n m * sz))).map fun H' => (Nat.min n m, H')
  | _ => none

/-- all elements of a slice become zero -/
def Heap.clr (lim : Nat) (H : Heap) (z : List C) (s : C) : Option Heap :=
  match s with
  | .nilSlice => some H
  | .slice i o n => if n = 0 then some H else H.st lim i o (List.replicate n z).flatten
  | _ => none
def sameKey : KK → C → C → Option Bool
  | .int, .int k a, .int j b => if k = j then some (a == b) else none
  | .str, .str a, .str b => some (a == b)
  | .bool, .bool a, .bool b => some (a == b)
  | _, _, _ => none
def findK (kk : KK) (k : C) : List (C × V) → Option (Option V)
  | [] => some none
  | (a, v) :: es => (sameKey kk k a).bind fun b => if b then some (some v) else findK kk k es
def Heap.getMap (H : Heap) : C → Option (List (C × V))
  | .nilMap => some []
  | .map i => match H.get i with
    | some (.map es) => some es
    | _ => none
  | _ => none

def setK (kk : KK) (k : C) (v : V) : List (C × V) → Option (List (C × V))
  | [] => some [(k, v)]
  | (a, u) :: es => (sameKey kk k a).bind fun b => if b then some ((a, v) :: es) else (setK kk k v es).map ((a, u) :: ·)
def delK (kk : KK) (k : C) : List (C × V) → Option (List (C × V))
  | [] => some []
  | (a, u) :: es => (sameKey kk k a).bind fun b => if b then some es else (delK kk k es).map ((a, u) :: ·)
def Heap.mset (lim : Nat) (H : Heap) (kk : KK) (m k : C) (v : V) : Option Heap :=
  match m with
  | .map i => match H.get i with
    | some (.map es) => if lim ≤ i then (setK kk k v es).map fun es' => H.put i (.map es') else none
    | _ => none
  | _ => none
def Heap.mdel (lim : Nat) (H : Heap) (kk : KK) (m k : C) : Option Heap :=
  match m with
  | .nilMap => some H
  | .map i => match H.get i with
    | some (.map es) => if lim ≤ i then (delK kk k es).map fun es' => H.put i (.map es') else none
    | _ => none
  | _ => none

section
variable {R : Type} (lim : Nat) (call : CallT)
def evalOp (e : Env) (H : Heap) : ROp → (T → Heap → Option R) → Option R
  | .mov x, K => (ev e x).bind fun v => K (.val v) H
  | .box sz x, K => (ev e x).bind fun v => v.cells.bind fun xs => if xs.length = sz then K (.val (.c (.ptr H.next 0))) (H.alloc (.cells sz xs)) else none
  | .new z, K => K (.val (.c (.ptr H.next 0))) (H.alloc (.cells z.length z))
  | .build z ps, K => (fillC e z ps).bind fun cs => K (.val (.agg cs)) H
  | .lit sz len z ps, K => (fillC e z ps).bind fun cs => K (.val (.c (.slice H.next 0 len))) (H.alloc (.cells sz cs))
  | .ld kd a, K => placeK e a
    (fun p o => (locCells e p).bind fun cs => (cs[o]?).bind fun x => kd.take x fun y => K (.val (.c y)) H)
    (fun i o => (H.ld i o).bind fun x => kd.take x fun y => K (.val (.c y)) H)
  | .lds kds a, K => placeK e a
    (fun p o => (locCells e p).bind fun cs => if o + kds.length ≤ cs.length then K (.val (.agg ((cs.drop o).take kds.length))) H else none)
    (fun i o => H.lds i o kds fun cs => K (.val (.agg cs)) H)
  | .ldN n a, K => placeK e a
    (fun p o => (locCells e p).bind fun cs => if o + n ≤ cs.length then K (.val (.agg ((cs.drop o).take n))) H else none)
    (fun i o => (H.ldN i o n).bind fun cs => K (.val (.agg cs)) H)
  | .ldL kd a, K => placeK e a
    (fun p o => (locCells e p).bind fun cs => (cs[o]?).bind fun x => kd.take x fun y => K (.val (.c y)) H)
    (fun _ _ => none)
  | .ldsL kds a, K => placeK e a
    (fun p o => (locCells e p).bind fun cs => if o + kds.length ≤ cs.length then K (.val (.agg ((cs.drop o).take kds.length))) H else none)
    (fun _ _ => none)
  | .nilck x, K => (evC e x).bind fun
    | .ptr i o => K (.val (.c (.ptr i o))) H
    | _ => none
  | .ar op k x y, K => (evI k e x).bind fun a => (evI k e y).bind fun b => K (.val (.c (.int k (arith op k a b)))) H
  | .cmp op k x y, K => (evI k e x).bind fun a => (evI k e y).bind fun b => K (.val (.c (.bool (cmpI op a b)))) H
  | .dv op k x y, K => (evI k e x).bind fun a => (evI k e y).bind fun b => if b = 0 then none else K (.val (.c (.int k (divI op k a b)))) H
  | .bit op k x y, K => (evI k e x).bind fun a => (evI k e y).bind fun b => K (.val (.c (.int k (bitI op k a b)))) H
  | .sh op k j x y, K => (evI k e x).bind fun a => (evI j e y).bind fun b => if b < 0 then none else K (.val (.c (.int k (shI op k a b)))) H
  | .eqB ne x y, K => (evB e x).bind fun a => (evB e y).bind fun b => K (.val (.c (.bool ((a == b) != ne)))) H
  | .cmpS op x y, K => (evC e x).bind fun x => x.asS.bind fun a => (evC e y).bind fun y => y.asS.bind fun b => K (.val (.c (.bool (cmpStr op a b)))) H
  | .catS x y, K => (evC e x).bind fun x => x.asS.bind fun a => (evC e y).bind fun y => y.asS.bind fun b => if roomy (a.size + b.size) then K (.val (.c (.str (a ++ b)))) H else none
  | .eqN nk ne x, K => (evC e x).bind fun x => (isNil nk x).bind fun b => K (.val (.c (.bool (b != ne)))) H
  | .not x, K => (evB e x).bind fun b => K (.val (.c (.bool (!b)))) H
  | .neg k x, K => (evI k e x).bind fun a => K (.val (.c (.int k (k.wrap (0 - a))))) H
  | .conv j k x, K => (evI j e x).bind fun a => K (.val (.c (.int k (k.wrap a)))) H
  | .fld o a, K => placeK e a (fun p q => K (.laddr p (q + o)) H) (fun i q => K (.val (.c (.ptr i (q + o)))) H)
  | .fldC o x, K => (ev e x).bind fun v => (v.cell o).bind fun x => K (.val (.c x)) H
  | .fldA o n x, K => (ev e x).bind fun v => (v.part o n).bind fun xs => K (.val (.agg xs)) H
  | .idx sz x i, K => (evC e x).bind fun s => (evC e i).bind fun i => i.asIx.bind fun n => (s.elem sz n).bind fun q => K (.val (.c (.ptr q.1 q.2))) H
  | .idxA n sz a i, K => (evC e i).bind fun i => i.asIx.bind fun m => if 0 ≤ m ∧ m < n then placeK e a (fun p q => K (.laddr p (q + m.toNat * sz)) H) (fun i q => K (.val (.c (.ptr i (q + m.toNat * sz)))) H) else none
  | .idxS x i, K => (evC e x).bind fun s => s.asS.bind fun s => (evC e i).bind fun i => i.asIx.bind fun m => if 0 ≤ m then (s[m.toNat]?).bind fun b => K (.val (.c (.int .u8 b.toNat))) H else none
  | .sub sz x lo hi, K => (evC e x).bind fun s => (evLo e lo).bind fun l => (evHi e hi).bind fun h => (H.sub lim sz s l h).bind fun r => K (.val (.c r)) H
  | .subS x lo hi, K => (evC e x).bind fun s => (evLo e lo).bind fun l => (evHi e hi).bind fun h => (s.subS l h).bind fun r => K (.val (.c r)) H
  | .len x, K => (evC e x).bind fun s => s.len.bind fun n => K (.val (.c (.int .i64 n))) H
  | .lenS x, K => (evC e x).bind fun s => s.asS.bind fun b => K (.val (.c (.int .i64 b.size))) H
  | .lenM x, K => (evC e x).bind fun m => (H.getMap m).bind fun es => K (.val (.c (.int .i64 es.length))) H
  | .app sz s x, K => (evC e s).bind fun s => (evC e x).bind fun x => (H.cellsOf sz x).bind fun xs => x.len.bind fun n => (H.app lim sz s xs n).bind fun q => K (.val (.c q.1)) q.2
  | .copy sz d s, K => (evC e d).bind fun d => (evC e s).bind fun s => (H.cellsOf sz s).bind fun xs => s.len.bind fun n => (H.copy lim sz d xs n).bind fun q => K (.val (.c (.int .i64 q.1))) q.2
  | .clr z x, K => (evC e x).bind fun s => (H.clr lim z s).bind fun H' => K .poison H'
  | .mkS sz z n, K => (evI .i64 e n).bind fun n => if 0 ≤ n ∧ n ≤ 2 ^ 36 then K (.val (.c (.slice H.next 0 n.toNat))) (H.alloc (.cells sz ((List.replicate n.toNat z).flatten))) else none
  | .mkF f cap, K => (evCs e cap).bind fun cs => K (.val (.c (.func f [] cs))) H
  | .mkM, K => K (.val (.c (.map H.next))) (H.alloc (.map []))
  | .look kk z ok kd m k, K => (evC e m).bind fun m => (evC e k).bind fun k => (H.getMap m).bind fun es => (findK kk k es).bind fun r =>
    kd.take (r.getD z) fun v => K (.val (if ok then .tuple [v, .c (.bool r.isSome)] else v)) H
  | .mset kk m k v, K => (evC e m).bind fun m => (evC e k).bind fun k => (ev e v).bind fun v => (H.mset lim kk m k v).bind fun H' => K .poison H'
  | .mdel kk m k, K => (evC e m).bind fun m => (evC e k).bind fun k => (H.mdel lim kk m k).bind fun H' => K .poison H'
  | .call f kd args, K => (evs e args).bind fun vs => (call f vs H).bind fun q => kd.take q.1 fun v => K (.val v) q.2
  | .callV x kd args, K => (evC e x).bind fun c => c.asF.bind fun q => (evs e args).bind fun vs => (call q.1 (q.2.1.map .c ++ vs ++ q.2.2.map .c) H).bind fun q => kd.take q.1 fun v => K (.val v) q.2
  | .ext kd x i, K => (ev e x).bind fun v => (v.ext i).bind fun v => kd.take v fun u => K (.val u) H
  | .mkI t x, K => (ev e x).bind fun
    | .c x => K (.val (.c (.iface t false [x]))) H
    | .agg cs => K (.val (.c (.iface t true cs))) H
    | _ => none
  | .mm mx k x y, K => (evI k e x).bind fun a => (evI k e y).bind fun b => K (.val (.c (.int k (if mx then (if b > a then b else a) else (if b < a then b else a))))) H

def dsts : Ops → List Nat
  | .nil => []
  | .op d _ r => d.toList ++ dsts r
  | .lbox _ p _ r => p :: dsts r
  | .lnew p _ r => p :: dsts r
  | .st _ _ _ _ r => dsts r
  | .logic _ _ i _ d r => dsts i ++ d :: dsts r

def Env.putO (e : Env) : Option Nat → T → Env
  | some d, t => e.put d t
  | none, _ => e

def runOps {R : Type} : Ops → Env → Heap → (Env → Heap → Option R) → Option R
  | .nil, e, H, K => K e H
  | .op d o r, e, H, K => evalOp lim call e H o fun t H' => runOps r (e.putO d t) H' K
  | .lbox n p x r, e, H, K => (ev e x).bind fun v => v.cells.bind fun xs => if xs.length = n then runOps r ((e.map (T.purge p)).set p (.loc xs)) H K else none
  | .lnew p z r, e, H, K => runOps r ((e.map (T.purge p)).set p (.loc z)) H K
  | .st hp n a x r, e, H, K => (ev e x).bind fun v => v.cells.bind fun xs => if xs.length ≠ n then none else placeK e a
    (fun p o => if hp = true then none else (locCells e p).bind fun cs => if o + n ≤ cs.length then runOps r (e.set p (.loc (splice cs o xs))) H K else none)
    (fun i o => (H.st lim i o xs).bind fun H' => runOps r e H' K)
  | .logic and c inner keep d r, e, H, K => (evB e (.t c)).bind fun b =>
    (if b = and then runOps inner e H (fun e' H' => (evB e' keep).bind fun r => some (r, H')) else some (b, H)).bind fun q =>
      runOps r ((Env.kill (dsts inner) e).put d (.val (.c (.bool q.1)))) q.2 K
end

/-! ### code -/
inductive RC where
  | skip
  | ops (o : Ops)
  | dops (perm ks ts : List Nat) (o : Ops)
  | seq (a b : RC)
  | cond (x : X) (a b : RC) (join : Option (Nat × List Nat))
  | block (id : Nat) (c : RC)
  | loop (l : Nat) (dead : List Nat) (c : RC)
  | exit (id : Nat)
  | ret
  | stuck
  deriving Inhabited

inductive Flow where
  | normal
  | exit (id : Nat)

abbrev Rs := Option (V × Heap)
abbrev KT := Flow → Env → Heap → Rs

section
variable (lim : Nat) (call : CallT) (jump : Nat → Env → Heap → Rs) (fin : Env → Heap → Rs)
def joinK (j : Option (Nat × List Nat)) (K : KT) : KT :=
  match j with
  | none => K
  | some (l, dead) => fun fl e H => match fl with
    | .normal => jump l (Env.kill dead e) H
    | .exit id => K (.exit id) e H
def loopK (l : Nat) (dead : List Nat) (K : KT) : KT := fun fl e H => match fl with
  | .normal => jump l (Env.kill dead e) H
  | .exit id => K (.exit id) e H
def blockK (id : Nat) (K : KT) : KT := fun fl e H => match fl with
  | .normal => K .normal e H
  | .exit i => if i = id then K .normal e H else K (.exit i) e H
def seqK (g : Env → Heap → Rs) (K : KT) : KT := fun fl e H => match fl with
  | .normal => g e H
  | .exit id => K (.exit id) e H
def exec : RC → Env → Heap → KT → Rs
  | .skip, e, H, K => K .normal e H
  | .ops o, e, H, K => runOps lim call o e H fun e' H' => K .normal e' H'
  | .dops _ ks ts o, e, H, K => if (ks ++ ts).all (fun p => decide (p < e.length)) = true then runOps lim call o (Env.clean ks ts e) H fun e' H' => K .normal e' H' else none
  | .seq a b, e, H, K => exec a e H (seqK (fun e' H' => exec b e' H' K) K)
  | .cond x a b j, e, H, K => (evB e x).bind fun c => if c = true then exec a e H (joinK jump j K) else exec b e H (joinK jump j K)
  | .block id c, e, H, K => exec c e H (blockK id K)
  | .loop l dead _, e, H, _ => jump l (Env.kill dead e) H
  | .exit id, e, H, K => K (.exit id) e H
  | .ret, e, H, _ => fin e H
  | .stuck, _, _, _ => none
/-- what a label stands for: the code at it, with what comes behind -/
def find (l : Nat) : RC → KT → Option (Env → Heap → Rs)
  | .seq a b, K => (find l a (seqK (fun e' H' => exec lim call jump fin b e' H' K) K)) <|> find l b K
  | .cond _ a b j, K => if (j.map (·.1)) = some l then some (K .normal) else find l a (joinK jump j K) <|> find l b (joinK jump j K)
  | .block id c, K => find l c (blockK id K)
  | .loop l' dead c, K => if l' = l then some fun e H => exec lim call jump fin c e H (loopK jump l' dead K) else find l c (loopK jump l' dead K)
  | _, _ => none
end

inductive Res where
  | t (p : Nat)
  | cell1 (a : Nat)
  | cells (a n : Nat)
  deriving Inhabited
structure RFunc where
  ntmps : Nat
  res : List Res
  body : RC
  deriving Inhabited

def res1 (e : Env) (H : Heap) : Res → Option V
  | .t p => ev e (.t p)
  | .cell1 a => placeK e (.t a) (fun p o => (locCells e p).bind fun cs => (cs[o]?).bind fun x => some (.c x)) (fun i o => (H.ld i o).bind fun x => some (.c x))
  | .cells a n => placeK e (.t a) (fun p o => (locCells e p).bind fun cs => if o + n ≤ cs.length then some (.agg ((cs.drop o).take n)) else none) (fun i o => (H.ldN i o n).bind fun x => some (.agg x))
def resAll (e : Env) (H : Heap) : List Res → Option (List V)
  | [] => some []
  | r :: rs => (res1 e H r).bind fun v => (resAll e H rs).bind fun vs => some (v :: vs)
def finish (rf : RFunc) (e : Env) (H : Heap) : Rs := (resAll e H rf.res).bind fun
  | [v] => some (v, H)
  | vs => some (.tuple vs, H)

def endK (rf : RFunc) : KT := fun fl e H => match fl with
  | .normal => finish rf e H
  | .exit _ => none
abbrev RunT := FuncId → Nat → Env → Heap → Rs
def callOf (run : RunT) : CallT := fun f vs H => run f 0 (vs.map .val) H
def stepR (ext : FuncId → Env → Heap → Rs) (prog : FuncId → Option RFunc) (lim : Nat) (run : RunT) : RunT := fun f l e H =>
  match prog f with
  | none => if l = 0 then ext f e H else none
  | some rf =>
    if l = 0 then exec lim (callOf run) (run f) (finish rf) rf.body (e ++ List.replicate (rf.ntmps - e.length) .poison) H (endK rf)
    else match find lim (callOf run) (run f) (finish rf) l rf.body (endK rf) with
      | some g => g e H
      | none => none
def runN (ext : FuncId → Env → Heap → Rs) (prog : FuncId → Option RFunc) (lim : Nat) : Nat → RunT
  | 0 => fun _ _ _ _ => none
  | k + 1 => stepR ext prog lim (runN ext prog lim k)

open Classical in
/-- the answer for enough rounds -/
noncomputable def run (ext : FuncId → Env → Heap → Rs) (prog : FuncId → Option RFunc) (lim : Nat) : RunT := fun f l e H =>
  if h : ∃ k, (runN ext prog lim k f l e H).isSome then runN ext prog lim h.choose f l e H else none
end Go.Proofs.Ytnnjklkfcleleaa.Vm
