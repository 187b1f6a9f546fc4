/-
  THE MACHINE AND THE MODEL: one operation.
-/
import Derived.Test.YtnnjklkfcleleaaVe
namespace Go.Proofs.Ytnnjklkfcleleaa.Vm
open Go
set_option linter.unusedVariables false
set_option linter.unusedSimpArgs false
variable {lim base : Nat} {P : Program}

def szIs (P : Program) (t : TypeId) (n : Nat) : Bool := match P.info? t with
  | some i => i.size == n
  | none => false
def scalarT (P : Program) (t : TypeId) : Bool := match P.underlying t with
  | some (.struct _) | some (.array _ _) | none => false
  | _ => true
def aggT (P : Program) (t : TypeId) : Bool := match P.underlying t with
  | some (.struct _) | some (.array _ _) => true
  | _ => false
def zeroIs (P : Program) (t : TypeId) (z : List C) : Bool := match P.info? t with
  | some i => match i.zero with
    | some v => chkCs z v.cells.toList && v.cells.size == i.size
    | none => false
  | none => false
def zeroV (P : Program) (t : TypeId) (z : V) : Bool := match P.info? t with
  | some i => match i.zero with
    | some v => chkV z v
    | none => false
  | none => false
def sliceT (P : Program) (t : TypeId) : Option TypeId := match P.underlying t with
  | some (.slice e) => some e
  | _ => none
def bytesOk (P : Program) (t : TypeId) : Bool := match P.info? t with
  | some i => decide (0 < i.bytes) && decide (i.bytes ≤ 2048)
  | none => false
def isInt (P : Program) (t : TypeId) (k : IntKind) : Bool := match P.underlying t with
  | some (.int j) => j == k
  | _ => false
def NK.fits : NK → TypeDesc → Bool
  | .ptr, .pointer _ => true
  | .slice, .slice _ => true
  | .map, .map _ _ => true
  | .func, .func _ _ _ => true
  | .iface, .interface _ => true
  | _, _ => false
def nilOf : NK → Value → Bool
  | .ptr, .pointer none => true
  | .slice, .slice none 0 0 => true
  | .map, .map none => true
  | .func, .nilFunc => true
  | .iface, .nilIface => true
  | _, _ => false
def chkParts (pl : Nat → Option (Nat × Nat)) : List (Nat × Nat × X) → List (Nat × Operand) → Bool
  | [], [] => true
  | (o, n, x) :: ps, (i, y) :: qs => (pl i == some (o, n)) && chkX x y && chkParts pl ps qs
  | _, _ => false
def chkO : Option X → Option Operand → Bool
  | none, none => true
  | some x, some y => chkX x y
  | _, _ => false
def isArith : BinOp → Bool
  | .add | .sub | .mul => true
  | _ => false
def isCmp : BinOp → Bool
  | .eql | .neq | .lss | .leq | .gtr | .geq => true
  | _ => false
def isDiv : BinOp → Bool
  | .quo | .rem => true
  | _ => false
def isBit : BinOp → Bool
  | .and | .or | .xor | .andNot => true
  | _ => false
def isSh : BinOp → Bool
  | .shl | .shr => true
  | _ => false
def mapT (P : Program) (t : TypeId) (kk : KK) : Option TypeId := match P.underlying t with
  | some (.map k e) => match P.underlying k with
    | some d => if kk.fits d then some e else none
    | none => none
  | _ => none
def fieldsOf (P : Program) (t : TypeId) : Option (Array Field) := match P.underlying t with
  | some (.struct fs) => some fs
  | _ => none

def chkOp (P : Program) (rop : ROp) (o : Oper) : Bool := match rop with
  | .mov x => match o.op with
    | .move y => chkX x y
    | .assign y => chkX x y
    | _ => false
  | .box _ x => match o.op with
    | .box _ y => chkX x y
    | _ => false
  | .new z => match o.op with
    | .alloc t => zeroIs P t z
    | _ => false
  | .build z ps => match o.op with
    | .build t qs => zeroIs P t z && (match P.underlying t with
        | some (.struct fs) => fs.all (fun f => (P.info? f.type).isSome) && chkParts (fun i => (fs[i]?).bind fun f => (P.info? f.type).map fun j => (f.offset, j.size)) ps qs.toList
        | some (.array _ e) => (match P.info? e with
          | some j => chkParts (fun i => some (i * j.size, j.size)) ps qs.toList
          | none => false)
        | _ => false)
    | _ => false
  | .lit sz len z ps => match o.op with
    | .buildSlice t n qs => n == len && (match sliceT P t with
        | some e => (match P.info? e with
          | some j => j.size == sz && decide (len * sz ≤ 2 ^ 24) && (match j.zero with
            | some zv => chkCs z ((Array.range (len * sz)).map (((if len * sz = 0 then #[] else zv.cells))[· % (if len * sz = 0 then #[] else zv.cells).size]!)).toList
            | none => false) && chkParts (fun i => some (i * sz, sz)) ps qs.toList
          | none => false)
        | none => false)
    | _ => false
  | .ld _ x => match o.op with
    | .load t y => scalarT P t && chkX x y
    | _ => false
  | .lds kds x => match o.op with
    | .load t y => aggT P t && szIs P t kds.length && chkX x y
    | _ => false
  | .ldN n x => match o.op with
    | .load t y => aggT P t && szIs P t n && chkX x y
    | _ => false
  | .ldL _ x => match o.op with
    | .load t y => scalarT P t && chkX x y
    | _ => false
  | .ldsL kds x => match o.op with
    | .load t y => aggT P t && szIs P t kds.length && chkX x y
    | _ => false
  | .nilck x => match o.op with
    | .nilCheck y => chkX x y
    | _ => false
  | .ar op k x y => match o.op with
    | .binOp op' _ x' y' _ => op == op' && isArith op && chkX x x' && chkX y y'
    | _ => false
  | .cmp op k x y => match o.op with
    | .binOp op' _ x' y' _ => op == op' && isCmp op && chkX x x' && chkX y y'
    | _ => false
  | .dv op k x y => match o.op with
    | .binOp op' _ x' y' _ => op == op' && isDiv op && chkX x x' && chkX y y'
    | _ => false
  | .bit op k x y => match o.op with
    | .binOp op' _ x' y' _ => op == op' && isBit op && chkX x x' && chkX y y'
    | _ => false
  | .sh op k j x y => match o.op with
    | .binOp op' _ x' y' _ => op == op' && isSh op && chkX x x' && chkX y y'
    | _ => false
  | .eqB ne x y => match o.op with
    | .binOp op' t x' y' _ => (if ne then op' == .neq else op' == .eql) && (P.underlying t matches some .bool) && chkX x x' && chkX y y'
    | _ => false
  | .cmpS op x y => match o.op with
    | .binOp op' _ x' y' _ => op == op' && isCmp op && chkX x x' && chkX y y'
    | _ => false
  | .catS x y => match o.op with
    | .binOp op' _ x' y' _ => op' == .add && chkX x x' && chkX y y'
    | _ => false
  | .eqN nk ne x => match o.op with
    | .binOp op' t x' y' _ => (if ne then op' == .neq else op' == .eql) && (match P.underlying t with | some d => nk.fits d | none => false) && chkX x x' && (match y' with | .const v => nilOf nk v | _ => false)
    | _ => false
  | .not x => match o.op with
    | .unOp .not _ y => chkX x y
    | _ => false
  | .neg k x => match o.op with
    | .unOp .neg _ y => chkX x y
    | _ => false
  | .conv j k x => match o.op with
    | .convert s d y => isInt P s j && isInt P d k && chkX x y
    | _ => false
  | .fld n x => match o.op with
    | .fieldAddr s y f => chkX x y && (match fieldsOf P s with
        | some fs => (match fs[f]? with
          | some fd => fd.offset == n && (match P.info? fd.type with
            | some i => i.size != 0
            | none => false)
          | none => false)
        | none => false)
    | _ => false
  | .fldC n x => match o.op with
    | .field s y f => chkX x y && (match fieldsOf P s with
        | some fs => (match fs[f]? with
          | some fd => fd.offset == n && scalarT P fd.type
          | none => false)
        | none => false)
    | _ => false
  | .fldA n m x => match o.op with
    | .field s y f => chkX x y && (match fieldsOf P s with
        | some fs => (match fs[f]? with
          | some fd => fd.offset == n && aggT P fd.type && szIs P fd.type m
          | none => false)
        | none => false)
    | _ => false
  | .idx sz x i => match o.op with
    | .indexAddr t y j => chkX x y && chkX i j && (match sliceT P t with
        | some e => szIs P e sz
        | none => false)
    | _ => false
  | .idxA n sz x i => match o.op with
    | .indexAddr t y j => chkX x y && chkX i j && (match P.underlying t with
        | some (.array m e) => m == n && szIs P e sz
        | _ => false)
    | _ => false
  | .idxS x i => match o.op with
    | .index t y j => chkX x y && chkX i j && (P.underlying t matches some .string)
    | _ => false
  | .sub sz x lo hi => match o.op with
    | .slice t y l h none => chkX x y && chkO lo l && chkO hi h && (match sliceT P t with
        | some e => szIs P e sz
        | none => false)
    | _ => false
  | .subS x lo hi => match o.op with
    | .slice t y l h none => chkX x y && chkO lo l && chkO hi h && (P.underlying t matches some .string)
    | _ => false
  | .len x => match o.op with
    | .call { callee := .builtin .len, args, argTypes } => chkXs [x] args.toList && (match argTypes[0]? with
        | some t => (sliceT P t).isSome
        | none => false)
    | _ => false
  | .lenS x => match o.op with
    | .call { callee := .builtin .len, args, argTypes } => chkXs [x] args.toList && (match argTypes[0]? with
        | some t => (P.underlying t matches some .string)
        | none => false)
    | _ => false
  | .lenM x => match o.op with
    | .call { callee := .builtin .len, args, argTypes } => chkXs [x] args.toList && (match argTypes[0]? with
        | some t => (P.underlying t matches some (.map _ _))
        | none => false)
    | _ => false
  | .app sz s x => match o.op with
    | .call { callee := .builtin .append, args, argTypes } => chkXs [s, x] args.toList && (match argTypes[0]?, argTypes[1]? with
        | some t, some u => (match sliceT P t with
          | some e => szIs P e sz && bytesOk P e && (sliceT P u).isSome && (match P.info? e with
            | some i => (match i.zero with
              | some z => z.cells.size == i.size
              | none => false)
            | none => false)
          | none => false)
        | _, _ => false)
    | _ => false
  | .copy sz d s => match o.op with
    | .call { callee := .builtin .copy, args, argTypes } => chkXs [d, s] args.toList && (match argTypes[0]? with
        | some t => (match sliceT P t with
          | some e => szIs P e sz
          | none => false)
        | none => false)
    | _ => false
  | .mkS sz z n => match o.op with
    | .makeSlice t l c => chkX n l && chkX n c && (match sliceT P t with
        | some e => szIs P e sz && bytesOk P e && zeroIs P e z
        | none => false)
    | _ => false
  | .mkF f cap => match o.op with
    | .makeFunc (.func g) first captured => f == g && first.isEmpty && chkXs cap captured.toList
    | _ => false
  | .mkM => match o.op with
    | .makeMap _ none => true
    | _ => false
  | .look kk z ok _ m k => match o.op with
    | .lookup t m' k' ok' => ok == ok' && chkX m m' && chkX k k' && (match mapT P t kk with
        | some e => zeroV P e z
        | none => false)
    | _ => false
  | .mset kk m k v => match o.op with
    | .mapUpdate t m' k' v' => chkX m m' && chkX k k' && chkX v v' && (mapT P t kk).isSome
    | .insert t m' k' v' => chkX m m' && chkX k k' && chkX v v' && (mapT P t kk).isSome
    | _ => false
  | .clr z x => match o.op with
    | .call { callee := .builtin .clear, args, argTypes } => chkXs [x] args.toList && (match argTypes[0]? with
        | some t => (match sliceT P t with
          | some el => zeroIs P el z
          | none => false)
        | none => false)
    | _ => false
  | .mdel kk m k => match o.op with
    | .call { callee := .builtin .delete, args, argTypes } => chkXs [m, k] args.toList && (match argTypes[0]? with
        | some t => (mapT P t kk).isSome
        | none => false)
    | _ => false
  | .call f _ args => match o.op with
    | .call { callee := .value (.func g), args := ys, .. } => f == g && chkXs args ys.toList
    | _ => false
  | .callV x _ args => match o.op with
    | .call { callee := .value y, args := ys, .. } => chkX x y && chkXs args ys.toList
    | _ => false
  | .ext _ x i => match o.op with
    | .extract y j => i == j && chkX x y
    | _ => false
  | .mkI t x => match o.op with
    | .makeInterface u y => t == u && chkX x y && (match P.underlying t with
        | some (.interface _) | none => false
        | _ => true)
    | _ => false
  | .mm mx k x y => match o.op with
    | .call { callee := .builtin b, args, .. } => chkXs [x, y] args.toList && (if mx then b matches .max else b matches .min)
    | _ => false

/-! ### runs -/
theorem run_isAgg_yes {t : TypeId} (h : aggT P t = true) (w : World) : (isAgg t).run P w = .ok true w := by
  unfold aggT at h
  cases hd : P.underlying t with
  | none => rw [hd] at h; cases h
  | some d => rw [hd] at h; cases d <;> simp at h <;> simp [isAgg, run_underlying hd]
theorem run_isAgg_no {t : TypeId} (h : scalarT P t = true) (w : World) : (isAgg t).run P w = .ok false w := by
  unfold scalarT at h
  cases hd : P.underlying t with
  | none => rw [hd] at h; cases h
  | some d => rw [hd] at h; cases d <;> simp at h <;> simp [isAgg, run_underlying hd]
theorem run_size_is {t : TypeId} {n : Nat} (h : szIs P t n = true) (w : World) : (sizeOf t).run P w = .ok n w := by
  unfold szIs at h
  split at h
  · rename_i i hi; rw [run_size hi]; simp at h; rw [h]
  · cases h
theorem run_mapM_list {α β : Type} (w : World) (f : α → Sem β) (g : α → β) : ∀ (l : List α), (∀ x ∈ l, (f x).run P w = .ok (g x) w) → (l.mapM f).run P w = .ok (l.map g) w
  | [], _ => by simp
  | x :: l, h => by simp [h x (by simp), run_mapM_list w f g l (fun y hy => h y (by simp [hy]))]
theorem run_mapM {α β : Type} (w : World) (f : α → Sem β) (g : α → β) (l : Array α) (h : ∀ x ∈ l, (f x).run P w = .ok (g x) w) : (l.mapM f).run P w = .ok (l.map g) w := by
  rw [Array.mapM_eq_mapM_toList]
  simp [run_mapM_list w f g l.toList (fun x hx => h x (by simpa using hx))]
  apply Array.ext'; simp

section one
variable {φ : Phi} {ψ : Nat → Nat} {e : Env} {a : Act} {w : World} {H : Heap}
theorem splice_rel : ∀ (xs : List C) (vs : List Value) (z : List C) (arr : Array Value) (off k : Nat), CsRel lim φ xs vs → CsRel lim φ z arr.toList →
    CsRel lim φ (splice z (off + k) xs) ((vs.zipIdx k).foldl (fun cs (c, j) => cs.setIfInBounds (off + j) c) arr).toList
  | [], _, z, arr, off, k, hx, hz => by cases hx; exact hz
  | x :: xs, _, z, arr, off, k, hx, hz => by
    cases hx with
    | cons a b =>
      simp only [splice, List.zipIdx_cons, List.foldl_cons]
      have := splice_rel xs _ (z.set (off + k) x) (arr.setIfInBounds (off + k) _) off (k + 1) b (by rw [Array.toList_setIfInBounds]; exact hz.set a (off + k))
      simpa [Nat.add_assoc] using this
theorem fill_rel (he : ERel lim base φ ψ e a.tmps w) (pl : Nat → Option (Nat × Nat)) : ∀ (ps : List (Nat × Nat × X)) (qs : List (Nat × Operand)) (z : List C) (arr : Array Value) {cs : List C}, chkParts pl ps qs = true → CsRel lim φ z arr.toList →
    fillC e z ps = some cs → ∃ arr', Instr.fill pl arr (qs.map fun (i, x) => (i, a.eval x)) = some arr' ∧ CsRel lim φ cs arr'.toList
  | [], [], z, arr, cs, _, hz, h => by simp only [fillC, Option.some.injEq] at h; subst h; exact ⟨arr, rfl, hz⟩
  | (o, n, x) :: ps, (i, y) :: qs, z, arr, cs, hc, hz, h => by
    simp only [chkParts, Bool.and_eq_true, beq_iff_eq] at hc
    obtain ⟨⟨h1, h2⟩, h3⟩ := hc
    simp only [fillC] at h
    obtain ⟨v, hv, h⟩ := Option.bind_eq_some_iff.1 h
    obtain ⟨xs, hxs, h⟩ := Option.bind_eq_some_iff.1 h
    split at h
    · rename_i hh
      have hr := (ev_rel he h2 hv).cells hxs
      have hl := hr.length
      have hzl := hz.length
      have := splice_rel xs _ z arr o 0 hr hz
      obtain ⟨arr', g1, g2⟩ := fill_rel he pl ps qs _ _ h3 this h
      refine ⟨arr', ?_, g2⟩
      simp only [List.map_cons, Instr.fill, h1]
      have e1 : ¬ ((a.eval y).cells.size ≠ n ∨ o + (a.eval y).cells.size > arr.size) := by
        simp at hl hzl; omega
      simp only [Array.length_toList] at hl hzl
      rw [if_neg (by simp; omega)]
      rw [← g1]
      congr 1
      rw [← Array.foldl_toList, Array.toList_zipIdx]
    · cases h
  | [], _ :: _, _, _, _, hc, _, _ => by simp [chkParts] at hc
  | _ :: _, [], _, _, _, hc, _, _ => by simp [chkParts] at hc

theorem loadVar_one {t : TypeId} (ht : scalarT P t = true) {ad : Addr} {v : Value} (h : w.cell? ad = some v) : (loadVar t ad).run P w = .ok v w := by
  simp [loadVar, run_isAgg_no ht, h]
theorem loadVar_many {t : TypeId} {n : Nat} (ht : aggT P t = true) (hn : szIs P t n = true) {ad : Addr} {A : Array Value} (h : (loadCells ad n).run P w = .ok A w) : (loadVar t ad).run P w = .ok (.agg A) w := by
  simp [loadVar, run_isAgg_yes ht, run_size_is hn, h]
theorem Heap.lds_ldN {R : Type} {H : Heap} {i : Nat} {r : R} : ∀ (kds : List K0) (o : Nat) (K : List C → Option R), H.lds i o kds K = some r → (kds.length = 0 ∨ ∃ sz c, H.get i = some (.cells sz c) ∧ o + kds.length ≤ c.length) ∧ ∃ xs, K xs = some r ∧ xs.length = kds.length ∧ ∀ j x, xs[j]? = some x → H.ld i (o + j) = some x
  | [], o, K, h => ⟨.inl rfl, [], h, rfl, fun j x hj => by simp at hj⟩
  | kd :: kds, o, K, h => by
    simp only [Heap.lds] at h
    obtain ⟨x, hx, h⟩ := Option.bind_eq_some_iff.1 h
    have h := takeC_some h
    obtain ⟨h1, xs, h2, h3, h4⟩ := Heap.lds_ldN kds (o + 1) _ h
    refine ⟨.inr ?_, x :: xs, h2, by simp [h3], fun j y hj => ?_⟩
    · have hx' := hx
      unfold Heap.ld at hx'
      split at hx'
      · rename_i sz c hg
        refine ⟨sz, c, hg, ?_⟩
        have hlt := (List.getElem?_eq_some_iff.1 hx').1
        simp only [List.length_cons]
        rcases h1 with h1 | ⟨sz', c', hg', hle⟩
        · omega
        · rw [hg] at hg'; cases hg'; omega
      · cases hx'
    · cases j with
      | zero => simp at hj; subst hj; exact hx
      | succ j => have := h4 j y (by simpa using hj); rwa [show o + 1 + j = o + (j + 1) by omega] at this
/-- cells of a local variable -/
theorem LocRel.cell {b : Nat} {cs : List C} (h : LocRel lim φ w b cs) {o : Nat} {x : C} (hx : cs[o]? = some x) : ∃ v, w.cell? ⟨b, o, none⟩ = some v ∧ CRel lim φ x v := by
  obtain ⟨⟨A, el, h1, h2⟩, _⟩ := h
  obtain ⟨v, hv, hr⟩ := h2.get hx
  exact ⟨v, by rw [cell_of_row w _ _ _ _ _ h1]; simpa using hv, hr⟩
theorem LocRel.cells {b : Nat} {cs : List C} (h : LocRel lim φ w b cs) {o n : Nat} (hn : o + n ≤ cs.length) : ∃ A : Array Value, (loadCells ⟨b, o, none⟩ n).run P w = .ok A w ∧ CsRel lim φ ((cs.drop o).take n) A.toList := by
  obtain ⟨⟨A, el, h1, h2⟩, _⟩ := h
  have hl := h2.length
  simp only [Array.length_toList] at hl
  have hcell : ∀ j, j < n → w.cell? ((⟨b, o, none⟩ : Addr).add j) = some (A.getD (o + j) default) := by
    intro j hj
    rw [Addr.add_lit, cell_of_row w _ _ _ _ _ h1]
    have : o + j < A.size := by omega
    simp [this]
  refine ⟨_, run_loadCells w _ n _ hcell, CsRel.of_get (by simp; omega) fun j x v hx hv => ?_⟩
  have hj : j < n := by
    have := (List.getElem?_eq_some_iff.1 hx).1
    simp at this; omega
  rw [List.getElem?_take_of_lt hj, List.getElem?_drop] at hx
  obtain ⟨u, hu, hr⟩ := h2.get hx
  simp [hj] at hv
  subst hv
  simp only [Array.getElem?_toList] at hu
  rw [hu]; exact hr
theorem elem_rel {s : C} {sv : Value} (hs : CRel lim φ s sv) {sz : Nat} {n : Int} {k : IntKind} {id o : Nat} (h : s.elem sz n = some (id, o)) {t el : TypeId} (ht : P.underlying t = some (.slice el)) (hz : szIs P el sz = true) :
    ∃ v, (Instr.indexAt t sv (.int k n)).run P w = .ok v w ∧ CRel lim φ (.ptr id o) v := by
  cases hs <;> simp [C.elem] at h
  rotate_left
  · omega
  rename_i i oo m off c p hp h1 h2 h3
  obtain ⟨⟨g1, g2⟩, rfl, rfl⟩ := h
  have hc : c ≠ 0 := by omega
  have hoff := h2.resolve_left hc
  subst hoff
  refine ⟨.pointer (some ⟨p.blk, p.sh + (oo + n.toNat * sz), none⟩), ?_, .ptr hp⟩
  simp [Instr.indexAt, asIntOf, run_underlying ht, run_size_is hz, g1, g2, Addr.add_lit]
  omega
theorem sub_rel {s r : C} {sv : Value} (hH : HRel lim φ H w) (hs : CRel lim φ s sv) {sz : Nat} {lo : Int} {hi : Option Int} (h : H.sub lim sz s lo hi = some r) {t el : TypeId} (ht : P.underlying t = some (.slice el)) (hz : szIs P el sz = true)
    {l h' : Option Value} (hl : (l = none ∧ lo = 0) ∨ ∃ k, l = some (.int k lo)) (hh : (h' = none ∧ hi = none) ∨ ∃ k n, h' = some (.int k n) ∧ hi = some n) :
    ∃ v, (Instr.sliceAt t sv l h' none).run P w = .ok v w ∧ CRel lim φ r v := by
  have key : ∀ (a : Option Addr) (n c : Nat), (0 ≤ lo ∧ lo ≤ hi.getD n ∧ hi.getD n ≤ n) → n ≤ c → (Instr.sliceAt t (.slice a n c) l h' none).run P w = .ok (.slice (if c = lo.toNat then a else a.map (·.add (lo.toNat * sz))) ((hi.getD n).toNat - lo.toNat) (c - lo.toNat)) w := by
    intro a n c hb hnc
    rcases hl with ⟨rfl, rfl⟩ | ⟨kl, rfl⟩ <;> rcases hh with ⟨rfl, rfl⟩ | ⟨kh, m, rfl, rfl⟩ <;> simp only [Option.getD] at hb ⊢
    · simp [Instr.sliceAt, Instr.slice, Instr.sliceBounds, run_underlying ht, run_size_is hz]
    · have : (0 ≤ m ∧ m ≤ (c : Int)) := by omega
      simp [Instr.sliceAt, Instr.slice, Instr.sliceBounds, Instr.sliceBound, asIntOf, run_underlying ht, run_size_is hz, this]
    · have : (0 ≤ lo ∧ lo ≤ (n : Int)) := by omega
      simp [Instr.sliceAt, Instr.slice, Instr.sliceBounds, Instr.sliceBound, asIntOf, run_underlying ht, run_size_is hz, this]
    · have h1 : (0 ≤ m ∧ m ≤ (c : Int)) := by omega
      have h2 : (0 ≤ lo ∧ lo ≤ max m 0) := by omega
      simp [Instr.sliceAt, Instr.slice, Instr.sliceBounds, Instr.sliceBound, asIntOf, run_underlying ht, run_size_is hz, h1, h2]
  cases hs <;> simp only [Heap.sub, reduceCtorEq] at h
  · split at h
    · rename_i hh2
      cases h
      obtain ⟨rfl, hh3⟩ := hh2
      have hb : (0 : Int) ≤ 0 ∧ (0 : Int) ≤ hi.getD ((0 : Nat) : Int) ∧ hi.getD ((0 : Nat) : Int) ≤ ((0 : Nat) : Int) := by
        cases hi <;> simp at hh3 ⊢; omega
      refine ⟨_, key none 0 0 hb (Nat.le_refl _), ?_⟩
      have : (hi.getD ((0 : Nat) : Int)).toNat - (0 : Int).toNat = 0 := by omega
      simp only [this]
      simpa using CRel.nilSlice
    · cases h
  · rename_i i o n off c p hp h1 h2 h3
    split at h
    · cases h
    · rename_i hbad
      split at h
      · rename_i hb
        cases h
        refine ⟨_, key (some ⟨p.blk, off, none⟩) n c hb h1, ?_⟩
        have hn : (hi.getD (n : Int) - lo).toNat = (hi.getD (n : Int)).toNat - lo.toNat := by omega
        rw [hn]
        by_cases hc : c = lo.toNat
        · rw [if_pos hc]
          exact .slice hp (by omega) (.inl (by omega)) (fun _ => .inl (by omega))
        · rw [if_neg hc]
          have hc0 : c ≠ 0 := by omega
          have hoff := h2.resolve_left hc0
          subst hoff
          simp only [Option.map_some, Addr.add_lit]
          refine .slice hp (by omega) (.inr (by omega)) (fun hl => .inr ?_)
          have hfit := (h3 hl).resolve_left hc0
          have hsz : p.sz = sz := by
            simp only [not_and, Bool.not_eq_true] at hbad
            have := hbad hl
            unfold Heap.szBad at this
            split at this
            · rename_i z cc hg
              obtain ⟨q, A, el', fz, g1, g2, g3, g4, g5, g6⟩ := hH.cells _ _ _ hg
              rw [hp] at g1; cases g1
              simp at this
              rw [(g5 hl).1, this]
            · cases this
          rw [hsz] at hfit ⊢
          have : lo.toNat * sz + (c - lo.toNat) * sz = c * sz := by rw [← Nat.add_mul]; congr 1; omega
          omega
      · cases h
  · rename_i i o a hlt
    split at h
    · cases h
    · split at h
      · rename_i hb
        cases h
        refine ⟨_, key (some a) 0 0 hb (Nat.le_refl _), ?_⟩
        have h0 : lo.toNat = 0 := by omega
        have h1 : (hi.getD ((0 : Nat) : Int)).toNat = 0 := by omega
        have h2 : (hi.getD ((0 : Nat) : Int) - lo).toNat = 0 := by omega
        rw [h2, h1, h0]
        exact .slice0 hlt
      · cases h
end one
end Go.Proofs.Ytnnjklkfcleleaa.Vm
