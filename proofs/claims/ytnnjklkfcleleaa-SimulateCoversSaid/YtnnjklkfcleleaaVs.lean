/-
  THE ARGUMENTS OF A LAW, AND WHAT ITS ROW SAYS BEHIND IT.
-/
import Derived.Test.YtnnjklkfcleleaaVr
import Derived.ProofKit
import Derived.OpenShut
import Derived.Carry
namespace Go.Proofs.Ytnnjklkfcleleaa.Vm
open Go
set_option linter.unusedVariables false
set_option linter.unusedSimpArgs false

/-! ### one cell, a struct, all parameters -/
inductive PK where
  | sc (s : Sc)
  | sl (ss : List Sc)
inductive PT where
  | one (k : PK)
  | struct (ks : List PK)
def pkOf (P : Program) (t : TypeId) : Option PK := match P.underlying t with
  | some (.slice e) => (scT P e).bind fun ss => if 0 < ss.length ∧ P.cellsOf t = 1 then some (.sl ss) else none
  | _ => (sc1 P t).map .sc
def pkFs (P : Program) (ts : List TypeId) : Nat → List Field → Option (List PK)
  | _, [] => some []
  | k, f :: fs => if f.offset = k ∧ ts[k]? = some f.type ∧ P.cellsOf f.type = 1 then (pkOf P f.type).bind fun s => (pkFs P ts (k + 1) fs).bind fun ss => some (s :: ss) else none
def ptOf (P : Program) (t : TypeId) : Option PT := match P.underlying t with
  | some (.struct fs) => (P.cellTypes P.depth t).bind fun ts => (pkFs P ts 0 fs.toList).bind fun ks => if P.cellsOf t = ks.length ∧ ts.length = ks.length then some (.struct ks) else none
  | some (.array _ _) => none
  | _ => (pkOf P t).map .one
def cellIn (H : Heap) : PK → C → Prop
  | .sc s, c => scC s c
  | .sl ss, c => ∃ rows, Sl H c ss.length rows ∧ (∀ r ∈ rows, Typed ss r) ∧ rows.length ≤ maxLen
def cellsIn (H : Heap) : List PK → List C → Prop
  | [], cs => cs = []
  | k :: ks, cs => ∃ c r, cs = c :: r ∧ cellIn H k c ∧ cellsIn H ks r
def paramIn (H : Heap) : PT → V → Prop
  | .one k, v => ∃ c, v = .c c ∧ cellIn H k c
  | .struct ks, v => ∃ cs, v = .agg cs ∧ cellsIn H ks cs
def paramsIn (H : Heap) : List PT → List V → Prop
  | [], vs => vs = []
  | d :: ds, vs => ∃ v r, vs = v :: r ∧ paramIn H d v ∧ paramsIn H ds r
theorem cellIn.grow {H H' : Heap} (g : Grow H H') : ∀ {k : PK} {c : C}, cellIn H k c → cellIn H' k c
  | .sc _, _, h => h
  | .sl _, _, ⟨rows, h1, h2, h3⟩ => ⟨rows, h1.grow g, h2, h3⟩
theorem cellsIn.grow {H H' : Heap} (g : Grow H H') : ∀ {ks : List PK} {cs : List C}, cellsIn H ks cs → cellsIn H' ks cs
  | [], _, h => h
  | _ :: _, _, ⟨c, r, h1, h2, h3⟩ => ⟨c, r, h1, h2.grow g, h3.grow g⟩
theorem paramIn.grow {H H' : Heap} (g : Grow H H') : ∀ {d : PT} {v : V}, paramIn H d v → paramIn H' d v
  | .one _, _, ⟨c, h1, h2⟩ => ⟨c, h1, h2.grow g⟩
  | .struct _, _, ⟨cs, h1, h2⟩ => ⟨cs, h1, h2.grow g⟩
theorem VRel.up {lim lim' : Nat} (hl : lim ≤ lim') {φ : Phi} {x : V} {v : Value} (h : VRel lim φ x v) : VRel lim' φ x v := HRel.up.VRel.upp hl h

section
variable {D : Type} {enc : TypeId × Value → D} {P : Program} {w : World} {held : Bool} {fuel : Nat} {t : TypeId} {x : DataW D × List MemPlace} {b0 : Nat}
theorem cell_in {k : PK} {v : Value} (hk : pkOf P t = some k) (h : DataW.trod enc P w 0 (fun _ => true) held fuel t [v] = some x) (hok : Cell.okWide P w .any b0 t v) {φ : Phi} {H : Heap} (hH : HRel H.next φ H w) :
    ∃ H' φ' c, HRel H'.next φ' H' w ∧ (∀ i p, φ i = some p → φ' i = some p) ∧ Grow H H' ∧ CRel H'.next φ' c v ∧ cellIn H' k c := by
  unfold pkOf at hk
  split at hk
  · rename_i e hu
    obtain ⟨ss, hss, hk⟩ := Option.bind_eq_some_iff.1 hk
    split at hk
    · rename_i hp
      cases hk
      obtain ⟨H', φ', c, rows, h1, h2, h3, h4, h5, h6, h7⟩ := slice_in hu hss hp.1 h hok hH
      exact ⟨H', φ', c, h1, h2, h3, h4, rows, h5, h6, h7⟩
    · cases hk
  · obtain ⟨s, hs, rfl⟩ := Option.map_eq_some_iff.1 hk
    obtain ⟨v', c, e, h1, h2⟩ := trod_sc1 hs h
    cases e
    exact ⟨H, φ, c, hH, fun _ _ h => h, .refl _, h2 _ _, h1⟩
theorem cells_in {ts : List TypeId} {n : Nat} : ∀ (fs : List Field) (k : Nat) (ks : List PK) (cs : List Value) (xs : List (DataW D × List MemPlace)), pkFs P ts k fs = some ks → cs.length = k + ks.length →
    (∀ (i : Nat) f, fs[i]? = some f → ∃ x, DataW.trod enc P w 0 (fun _ => true) held n f.type ((cs.drop f.offset).take (P.cellsOf f.type)) = some x) →
    (∀ (i : Nat) v, cs[i]? = some v → ∃ u, ts[i]? = some u ∧ Cell.okWide P w .any b0 u v) → ∀ {φ : Phi} {H : Heap}, HRel H.next φ H w →
    ∃ H' φ' row, HRel H'.next φ' H' w ∧ (∀ i p, φ i = some p → φ' i = some p) ∧ Grow H H' ∧ CsRel H'.next φ' row (cs.drop k) ∧ cellsIn H' ks row
  | [], k, ks, cs, xs, hk, hl, _, _, φ, H, hH => by
    simp only [pkFs] at hk; cases hk
    refine ⟨H, φ, [], hH, fun _ _ h => h, .refl _, ?_, rfl⟩
    rw [List.drop_of_length_le (by simp at hl; omega)]; exact .nil
  | f :: fs, k, ks, cs, xs, hk, hl, ht, hok, φ, H, hH => by
    simp only [pkFs] at hk
    split at hk
    · rename_i ho
      obtain ⟨ho, hts, hone⟩ := ho
      obtain ⟨s, hs, hk⟩ := Option.bind_eq_some_iff.1 hk
      obtain ⟨ss, hss, hk⟩ := Option.bind_eq_some_iff.1 hk
      cases hk
      have hlt : k < cs.length := by simp at hl; omega
      obtain ⟨x, hx⟩ := ht 0 f rfl
      rw [hone, ho] at hx
      have he : (cs.drop k).take 1 = [cs[k]] := by rw [List.drop_eq_getElem_cons hlt]; rfl
      rw [he] at hx
      obtain ⟨u, hu, hoku⟩ := hok k cs[k] (List.getElem?_eq_getElem hlt)
      rw [hts] at hu; cases hu
      obtain ⟨H1, φ1, c, a1, a2, a3, a4, a5⟩ := cell_in hs hx hoku hH
      obtain ⟨H2, φ2, row, b1, b2, b3, b4, b5⟩ := cells_in fs (k + 1) ss cs xs hss (by simp at hl; omega) (fun i g hg => ht (i + 1) g (by simpa using hg)) hok a1
      refine ⟨H2, φ2, c :: row, b1, fun i p hp => b2 i p (a2 i p hp), a3.trans b3, ?_, ⟨c, row, rfl, a5.grow b3, b5⟩⟩
      rw [List.drop_eq_getElem_cons hlt]
      exact .cons ((a4.mono b2).up b3.next) b4
    · cases hk
theorem param_in {d : PT} {v : Value} {dd : DataW D} {ps : List MemPlace} (hd : ptOf P t = some d) (h : DataW.Trod enc P w 0 (fun _ => true) held t v dd ps) (hok : Value.okWide P w .any b0 t v) {φ : Phi} {H : Heap} (hH : HRel H.next φ H w) :
    ∃ H' φ' x, HRel H'.next φ' H' w ∧ (∀ i p, φ i = some p → φ' i = some p) ∧ Grow H H' ∧ VRel H'.next φ' x v ∧ paramIn H' d x := by
  obtain ⟨fuel, h⟩ := h
  unfold ptOf at hd
  split at hd
  · rename_i fs hu
    obtain ⟨ts, hts, hd⟩ := Option.bind_eq_some_iff.1 hd
    obtain ⟨ks, hks, hd⟩ := Option.bind_eq_some_iff.1 hd
    split at hd
    · rename_i hl
      cases hd
      unfold Value.okWide at hok
      simp only [hu] at hok
      obtain ⟨cs, rfl, hsz, ts', hts', _, hrow⟩ := hok
      rw [hts] at hts'; cases hts'
      obtain ⟨xs, n, _, _, hlen, hxs, hf⟩ := DataW.trod_struct hu h
      have hcl : cs.toList.length = ks.length := by simp [hsz, hl.1]
      obtain ⟨H', φ', row, h1, h2, h3, h4, h5⟩ := cells_in (n := n) (b0 := b0) fs.toList 0 ks cs.toList xs hks (by omega) (fun i f hfi => by
          have hfi' : fs[i]? = some f := by rw [← Array.getElem?_toList]; exact hfi
          have hlt : i < xs.length := by rw [hxs]; exact (Array.getElem?_eq_some_iff.1 hfi').1
          exact ⟨xs[i], by have := hf i f hfi'; simpa only [Value.cells, List.getElem?_eq_getElem hlt] using this⟩) (fun i v hv => by
          have hlt : i < ts.length := by rw [hl.2, ← hcl]; exact (List.getElem?_eq_some_iff.1 hv).1
          obtain ⟨u, hu1, hu2⟩ := hrow i v (by rw [← Array.getElem?_toList]; exact hv)
          refine ⟨u, ?_, hu2⟩
          rw [← hu1]
          rw [Nat.mod_eq_of_lt hlt]) hH
      exact ⟨H', φ', .agg row, h1, h2, h3, .agg (by simpa using h4), row, rfl, h5⟩
    · cases hd
  · cases hd
  · rename_i hns hna
    obtain ⟨k, hk, rfl⟩ := Option.map_eq_some_iff.1 hd
    have hokc : Cell.okWide P w .any b0 t v := by
      unfold Value.okWide at hok
      split at hok
      · rename_i fs hu; exact absurd hu (hns fs)
      · rename_i n e hu; exact absurd hu (hna n e)
      · exact hok
    have hv : ∃ v', v.cells.toList = [v'] ∧ (v = v' ∨ ∃ a, v = .agg a) := by
      unfold pkOf at hk
      split at hk
      · rename_i e hu
        rcases DataW.trod_slice hu h with ⟨h0, _⟩ | ⟨a, len, cap, elems, rest, n, _, h0, _⟩
        · exact ⟨_, h0, by cases v <;> simp_all [Value.cells]⟩
        · exact ⟨_, h0, by cases v <;> simp_all [Value.cells]⟩
      · obtain ⟨s, hs, rfl⟩ := Option.map_eq_some_iff.1 hk
        obtain ⟨v', c, h0, _⟩ := trod_sc1 hs h
        exact ⟨_, h0, by cases v <;> simp_all [Value.cells]⟩
    obtain ⟨v', hv1, hv2⟩ := hv
    have hvv : v = v' := by
      rcases hv2 with h1 | ⟨a, rfl⟩
      · exact h1
      · exfalso
        unfold Cell.okWide at hokc
        unfold pkOf at hk
        split at hk
        · rename_i e hu; rw [hu] at hokc; simp only [Cell.ok, hu] at hokc
        · obtain ⟨s, hs, _⟩ := Option.map_eq_some_iff.1 hk
          unfold sc1 at hs
          split at hs
          · split at hs
            · rename_i k hu; rw [hu] at hokc; simp only [Cell.ok, hu] at hokc
            · rename_i hu; rw [hu] at hokc; simp only [Cell.ok, hu] at hokc
            · rename_i hu; rw [hu] at hokc; simp only [Cell.ok, hu] at hokc
            · cases hs
          · cases hs
    subst hvv
    rw [hv1] at h
    obtain ⟨H', φ', c, h1, h2, h3, h4, h5⟩ := cell_in hk h hokc hH
    exact ⟨H', φ', .c c, h1, h2, h3, .c h4, c, rfl, h5⟩
theorem params_in : ∀ (ts : List TypeId) (vs : List Value) (dd : List (DataW D)) (ps : List MemPlace) (ds : List PT), (∀ (i : Nat) t, ts[i]? = some t → ptOf P t = ds[i]?) → ds.length = ts.length → DataW.TrodAll enc P w 0 (fun _ => true) held ts vs dd ps →
    (∀ (j : Nat) t v, ts[j]? = some t → vs[j]? = some v → Value.okWide P w .any b0 t v) → ∀ {φ : Phi} {H : Heap}, HRel H.next φ H w →
    ∃ H' φ' xs, HRel H'.next φ' H' w ∧ (∀ i p, φ i = some p → φ' i = some p) ∧ Grow H H' ∧ VsRel H'.next φ' xs vs ∧ paramsIn H' ds xs
  | [], vs, dd, ps, ds, hd, hl, h, hok, φ, H, hH => by
    obtain ⟨rfl, rfl, rfl⟩ := ChangeShapes.trodAll_nil h
    have := List.eq_nil_of_length_eq_zero hl; subst this
    exact ⟨H, φ, [], hH, fun _ _ h => h, .refl _, .nil, rfl⟩
  | t :: ts, vs, dd, ps, ds, hd, hl, h, hok, φ, H, hH => by
    obtain ⟨v, vs', d, dd', p, q, rfl, rfl, rfl, h1, h2⟩ := ChangeShapes.trodAll_cons h
    cases ds with
    | nil => simp at hl
    | cons e ds =>
      obtain ⟨H1, φ1, x, a1, a2, a3, a4, a5⟩ := param_in (d := e) (hd 0 t rfl) h1 (hok 0 t v rfl rfl) hH
      obtain ⟨H2, φ2, xs, b1, b2, b3, b4, b5⟩ := params_in ts vs' dd' q ds (fun i t ht => hd (i + 1) t (by simpa using ht)) (by simpa using hl) h2 (fun j t v ht hv => hok (j + 1) t v (by simpa using ht) (by simpa using hv)) a1
      exact ⟨H2, φ2, x :: xs, b1, fun i p hp => b2 i p (a2 i p hp), a3.trans b3, .cons ((a4.mono b2).up b3.next) b4, ⟨x, xs, rfl, a5.grow b3, b5⟩⟩
end

/-! ### behind the law -/
theorem Ext.below {lim : Nat} {φ φ' : Phi} {w w' : World} (h : Ext lim φ w φ' w') (hφ : ∀ j q, lim ≤ j → φ j ≠ some q) : RowKit.Below w.heap.size w w' :=
  ⟨h.os, h.tape, h.output, h.size, fun b hb => h.same b hb fun j q hj hq => absurd hq (hφ j q hj)⟩
/-- a law that answers true in the machine -/
theorem law_calls2 {P : Program} {lim : Nat} {ext : FuncId → Env → Heap → Rs} {prog : FuncId → Option RFunc} (hext : CallOK lim P (fun f vs H => ext f (vs.map .val) H)) (hprog : ∀ f rf, prog f = some rf → chkFunc P f rf = true) {f : FuncId} {vs : List V} {H H' : Heap}
    (h : Vm.run ext prog lim f 0 (vs.map .val) H = some (.c (.bool true), H')) {φ : Phi} {w : World} {args : Array Value} (hH : HRel lim φ H w) (hvs : VsRel lim φ vs args.toList) (hφ : ∀ j q, lim ≤ j → φ j ≠ some q) :
    Calls P f args w fun e w' => e = .returned (.bool true) ∧ RowKit.Below w.heap.size w w' ∧ ∀ a, w'.frozen? a = w.frozen? a := by
  refine (run_calls hext hprog h hH hvs).mono fun e w' he => ?_
  obtain ⟨v, φ', he, hv, _, hx⟩ := he
  cases hv with | c hv => cases hv with | bool b => exact ⟨he, hx.below hφ, hx.froz⟩
section
variable {D : Type} {enc : TypeId × Value → D} {P : Program}
theorem trodAll_stay (hl : laidOutB P = true) {W W' : World} (hb : RowKit.Below W.heap.size W W') {sp : Nat → Bool} : ∀ (ts : List TypeId) (vs : List Value) (ds : List (DataW D)) (ps : List MemPlace), (∀ t ∈ ts, P.readableRec t = true ∧ t < P.types.size) →
    DataW.TrodAll enc P W 0 (fun _ => true) true ts vs ds ps → (∀ p ∈ ps, p.block < W.heap.size) → (∀ p ∈ ps, sp p.block = true) → DataW.TrodAll enc P W' 0 sp true ts vs ds ps
  | [], vs, ds, ps, _, h, _, _ => by
    obtain ⟨rfl, rfl, rfl⟩ := ChangeShapes.trodAll_nil h
    exact ChangeShapes.trodAll_mk0
  | t :: ts, vs, ds, ps, hr, h, hlt, hs => by
    obtain ⟨v, vs', d, ds', p, q, rfl, rfl, rfl, h1, h2⟩ := ChangeShapes.trodAll_cons h
    exact ⟨p, q, WideElems.Trod_stays hl (hr t (by simp)).1 (hr t (by simp)).2 h1 (fun x hx => hb.same (hlt x (by simp [hx]))) (fun x hx => hs x (by simp [hx])),
      trodAll_stay hl hb ts vs' ds' q (fun t ht => hr t (by simp [ht])) h2 (fun x hx => hlt x (by simp [hx])) (fun x hx => hs x (by simp [hx])), rfl⟩
theorem trodAll_length {w : World} {base : Nat} {spare : Nat → Bool} {held : Bool} : ∀ (ts : List TypeId) (vs : List Value) (ds : List (DataW D)) (ps : List MemPlace), DataW.TrodAll enc P w base spare held ts vs ds ps → ds.length = ts.length
  | [], vs, ds, ps, h => by obtain ⟨rfl, rfl, rfl⟩ := ChangeShapes.trodAll_nil h; rfl
  | t :: ts, vs, ds, ps, h => by
    obtain ⟨v, vs', d, ds', p, q, rfl, rfl, rfl, h1, h2⟩ := ChangeShapes.trodAll_cons h
    simp [trodAll_length ts vs' ds' q h2]
/-- what a law's row says behind the call -/
theorem law_post {f : Func} {s : ChangeSpec} {tb : TypeId} (hl : laidOutB P = true) (hrec : ∀ t ∈ f.params.toList, P.readableRec t = true ∧ t < P.types.size) (hv : s.vars = []) (hres : f.resultTypes = #[tb]) (hb : P.underlying tb = some .bool)
    (hfn : ∀ ds : List (DataW D), ds.length = f.params.toList.length → s.fn D ds = { results := [.lit (.bool true)], args := ds }) {W W' : World} {args : Array Value} {ds gs : List (DataW D)} {before : List MemPlace}
    (hW : DataW.Whole enc P f.params.toList s.vars false W args.toList ds gs before) (hbel : RowKit.Below W.heap.size W W') (hfz : ∀ a, W'.frozen? a = W.frozen? a) : s.post enc P f false true false false W args (.bool true) W' := by
  have hW' := hW
  obtain ⟨p, q, hA, hV, hbe, _, _⟩ := hW
  rw [hv] at hV
  obtain ⟨rfl, rfl⟩ := ChangeShapes.trodVars_none hV
  have hlen := trodAll_length _ _ _ _ hA
  have hf : s.fn D (ds ++ []) = { results := [.lit (.bool true)], args := ds } := by rw [List.append_nil]; exact hfn ds hlen
  rw [List.append_nil] at hbe
  subst hbe
  refine ChangeShapes.post_of_same (pa := before) (pv := []) hW' (fun _ _ _ => ?_) (fun sp hs => ?_) (fun sp _ => ?_) (by simp) (hbel.frame _) hfz ?_
  · rw [hf, hres]; exact Go.trodAll_cons_mk (RowKit.shut_bool hb true) ChangeShapes.trodAll_mk0
  · rw [hf]; exact trodAll_stay hl hbel _ _ _ _ hrec hA (fun x hx => by simpa using hW'.lt x hx) hs
  · rw [hf, hv]; rfl
  · intro j t r hj hr
    rw [hres] at hj hr
    cases j with
    | zero =>
      simp only [List.getElem?_toArray, List.getElem?_cons_zero, Option.some.injEq] at hj
      subst hj
      simp [Value.resultList] at hr
      subst hr
      exact RowKit.okWide_bool_mk hb true
    | succ j => simp at hj
end
end Go.Proofs.Ytnnjklkfcleleaa.Vm
