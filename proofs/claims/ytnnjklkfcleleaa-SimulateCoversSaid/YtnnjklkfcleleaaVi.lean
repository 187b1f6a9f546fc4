/-
  THE MACHINE AND THE MODEL: whole functions. What the machine answers the model answers.
-/
import Derived.Test.YtnnjklkfcleleaaVo
namespace Go.Proofs.Ytnnjklkfcleleaa.Vm
open Go
set_option linter.unusedVariables false
set_option linter.unusedSimpArgs false
variable {lim : Nat} {P : Program}

def labels : RC → List Nat
  | .seq a b => labels a ++ labels b
  | .cond _ a b j => (j.map (·.1)).toList ++ (labels a ++ labels b)
  | .block _ c => labels c
  | .loop l _ c => l :: labels c
  | _ => []

theorem exec_le {call1 call2 : CallT} {jump1 jump2 : Nat → Env → Heap → Rs} {fin : Env → Heap → Rs} {K1 K2 : KT} (hc : ∀ f vs H x, call1 f vs H = some x → call2 f vs H = some x) (hj : ∀ l e H x, jump1 l e H = some x → jump2 l e H = some x)
    (hK : ∀ fl e H x, K1 fl e H = some x → K2 fl e H = some x) (c : RC) (e : Env) (H : Heap) {x : V × Heap} (h : exec lim call1 jump1 fin c e H K1 = some x) : exec lim call2 jump2 fin c e H K2 = some x := by
  have two : ∀ {α : Type} {a b : Option α}, (∀ x, a = some x → b = some x) → Apx (fun k => if k = 0 then a else b) b := fun h => Apx.two h
  have := apx_exec (lim := lim) (fin := fin) (call := fun k => if k = 0 then call1 else call2) (call' := call2) (jump := fun k => if k = 0 then jump1 else jump2) (jump' := jump2)
    (fun f vs H => by have := two (hc f vs H); exact ⟨fun k y hy => this.up k y (by cases k <;> simpa using hy) |> fun h => by cases k <;> simpa using h, fun k y hy => this.hi k y (by cases k <;> simpa using hy), fun y hy => ⟨1, by simpa using hy⟩⟩)
    (fun f vs H => by have := two (hj f vs H); exact ⟨fun k y hy => this.up k y (by cases k <;> simpa using hy) |> fun h => by cases k <;> simpa using h, fun k y hy => this.hi k y (by cases k <;> simpa using hy), fun y hy => ⟨1, by simpa using hy⟩⟩)
    c e H (K := fun k => if k = 0 then K1 else K2) (K' := K2)
    (fun f vs H => by have := two (hK f vs H); exact ⟨fun k y hy => this.up k y (by cases k <;> simpa using hy) |> fun h => by cases k <;> simpa using h, fun k y hy => this.hi k y (by cases k <;> simpa using hy), fun y hy => ⟨1, by simpa using hy⟩⟩)
  exact this.hi 0 x (by simpa using h)

section find
variable {call : CallT} {jump : Nat → Env → Heap → Rs} {fin : Env → Heap → Rs} {l : Nat}
theorem find_none : ∀ (c : RC) (K : KT), l ∉ labels c → find lim call jump fin l c K = none
  | .skip, _, _ => rfl
  | .ops _, _, _ => rfl
  | .dops _ _ _ _, _, _ => rfl
  | .exit _, _, _ => rfl
  | .ret, _, _ => rfl
  | .stuck, _, _ => rfl
  | .seq a b, K, h => by
    simp only [labels, List.mem_append, not_or] at h
    simp only [find, find_none a _ h.1, find_none b _ h.2]; rfl
  | .cond x a b j, K, h => by
    simp only [labels, List.mem_append, not_or] at h
    have hj : ¬ (j.map (·.1)) = some l := by
      intro hj; apply h.1; rw [hj]; simp
    simp only [find, hj, if_false, find_none a _ h.2.1, find_none b _ h.2.2]; rfl
  | .block _ c, K, h => by simp only [find]; exact find_none c _ h
  | .loop l' d c, K, h => by
    simp only [labels, List.mem_cons, not_or] at h
    have hl : ¬ l' = l := fun e => h.1 e.symm
    simp only [find, hl, if_false]; exact find_none c _ h.2
theorem find_some : ∀ (c : RC) (K : KT), l ∈ labels c → ∃ g, find lim call jump fin l c K = some g
  | .skip, _, h => by simp [labels] at h
  | .ops _, _, h => by simp [labels] at h
  | .dops _ _ _ _, _, h => by simp [labels] at h
  | .exit _, _, h => by simp [labels] at h
  | .ret, _, h => by simp [labels] at h
  | .stuck, _, h => by simp [labels] at h
  | .seq a b, K, h => by
    simp only [find]
    by_cases ha : l ∈ labels a
    · obtain ⟨g, hg⟩ := find_some a (seqK (fun e' H' => exec lim call jump fin b e' H' K) K) ha
      exact ⟨g, by rw [hg]; rfl⟩
    · rw [find_none a _ ha]
      simp only [labels, List.mem_append] at h
      obtain ⟨g, hg⟩ := find_some b K (h.resolve_left ha)
      exact ⟨g, by rw [hg]; rfl⟩
  | .cond x a b j, K, h => by
    simp only [find]
    by_cases hj : (j.map (·.1)) = some l
    · exact ⟨_, by rw [if_pos hj]⟩
    · rw [if_neg hj]
      by_cases ha : l ∈ labels a
      · obtain ⟨g, hg⟩ := find_some a (joinK jump j K) ha
        exact ⟨g, by rw [hg]; rfl⟩
      · rw [find_none a _ ha]
        simp only [labels, List.mem_append] at h
        rcases h with h | h | h
        · exfalso; apply hj
          cases j with
          | none => simp at h
          | some p => simp at h; simp [h]
        · exact absurd h ha
        · obtain ⟨g, hg⟩ := find_some b (joinK jump j K) h
          exact ⟨g, by rw [hg]; rfl⟩
  | .block _ c, K, h => by simp only [find]; exact find_some c _ h
  | .loop l' d c, K, h => by
    simp only [find]
    by_cases hl : l' = l
    · exact ⟨_, by rw [if_pos hl]⟩
    · rw [if_neg hl]
      simp only [labels, List.mem_cons] at h
      exact find_some c _ (h.resolve_left (fun e => hl e.symm))
end find

/-! ### the comparison -/
def nodup : List Nat → Bool
  | [] => true
  | x :: xs => !xs.contains x && nodup xs
theorem nodup_eq : ∀ {l : List Nat}, nodup l = true → l.Nodup
  | [], _ => List.nodup_nil
  | x :: xs, h => by
    simp only [nodup, Bool.and_eq_true, Bool.not_eq_true', List.contains_eq_mem, decide_eq_false_iff_not] at h
    exact List.nodup_cons.2 ⟨h.1, nodup_eq h.2⟩
def chkDraw (P : Program) (ops : Array Oper) (perm ks ts : List Nat) (o : Ops) : Bool :=
  match row none o perm with
  | some (its, []) => P.follows .mixedOrders && chkRow2 P ops its && nodup (dsts o) && (dsts o).all (fun p => (ks ++ ts).contains p) && (W its).all (fun p => (dsts o).contains p) && its.all (fun z => !z.a.allocs || z.a.writes.all (fun p => ks.contains p))
  | _ => false
def chkRC (P : Program) : RC → Code → Bool
  | .skip, .skip => true
  | .ops o, .region _ ops false => chkOps P ops none o 0 == some ops.size
  | .dops perm ks ts o, .region _ ops true => chkDraw P ops perm ks ts o
  | .seq a b, .seq x y => chkRC P a x && chkRC P b y
  | .cond c a b _, .cond c' x y => chkX c c' && chkRC P a x && chkRC P b y
  | .block id c, .block id' x => id == id' && chkRC P c x
  | .loop _ _ c, .loop x => chkRC P c x
  | .exit id, .exit id' => id == id'
  | .ret, .ret => true
  | .stuck, _ => true
  | _, _ => false
def chkRes1 (P : Program) : Res → ResultVar → Bool
  | .t p, .tmp q => p == q
  | .cell1 a, .cell b t => a == b && scalarT P t
  | .cells a n, .cell b t => a == b && aggT P t && szIs P t n
  | _, _ => false
def chkRes (P : Program) : List Res → List ResultVar → Bool
  | [], [] => true
  | r :: rs, x :: xs => chkRes1 P r x && chkRes P rs xs
  | _, _ => false
def chkFunc (P : Program) (f : FuncId) (rf : RFunc) : Bool :=
  match P.funcs[f]? with
  | some fn => match fn.body with
    | some c => chkRC P rf.body c && rf.ntmps == fn.ntmps && chkRes P rf.res fn.results.toList && nodup (0 :: labels rf.body) && !(fn.name == "runtime.NumGoroutine")
    | none => false
  | none => false

/-! ### the start of a region that draws -/
theorem cleanFrom_get {ks ts : List Nat} : ∀ {e : Env} {k p : Nat}, (Env.cleanFrom ks ts k e)[p]? = (e[p]?).map (T.clean ks ts (k + p))
  | [], k, p => by simp [Env.cleanFrom]
  | t :: e, k, 0 => by simp [Env.cleanFrom]
  | t :: e, k, p + 1 => by
    simp only [Env.cleanFrom, List.getElem?_cons_succ]
    rw [cleanFrom_get]; congr 2; omega
theorem clean_get {ks ts : List Nat} {e : Env} {p : Nat} : (Env.clean ks ts e)[p]? = (e[p]?).map (T.clean ks ts p) := by
  unfold Env.clean; rw [cleanFrom_get, Nat.zero_add]
theorem clean_length {ks ts : List Nat} {e : Env} : (Env.clean ks ts e).length = e.length := by
  unfold Env.clean
  generalize 0 = k
  induction e generalizing k with
  | nil => rfl
  | cons t e ih => simp only [Env.cleanFrom, List.length_cons, ih]
theorem clean_free {ks ts : List Nat} {e : Env} : Free (Env.clean ks ts e) (ks ++ ts) := by
  have key : ∀ s t, Env.get (Env.clean ks ts e) s = t → t ≠ .poison → ∃ u, e[s]? = some u ∧ t = T.clean ks ts s u := fun s t h ht => by
    have := Env.get_eq h ht
    rw [clean_get] at this
    obtain ⟨u, hu, he⟩ := Option.map_eq_some_iff.1 this
    exact ⟨u, hu, he.symm⟩
  intro p hp
  rw [List.mem_append] at hp
  refine ⟨fun cs hc => ?_, fun s o hs => ?_⟩
  · obtain ⟨u, _, hu⟩ := key p _ hc (by simp)
    unfold T.clean at hu
    split at hu
    · cases hu
    · rename_i hk
      simp only [List.contains_eq_mem, decide_eq_true_eq] at hk
      have hts := hp.resolve_left hk
      cases u with
      | loc cs => simp [hts] at hu
      | laddr q o => simp only at hu; split at hu <;> cases hu
      | _ => cases hu
  · obtain ⟨u, _, hu⟩ := key s _ hs (by simp)
    unfold T.clean at hu
    split at hu
    · cases hu
    · cases u with
      | loc cs => simp only at hu; split at hu <;> cases hu
      | laddr q o =>
        simp only at hu
        split at hu
        · cases hu
        · rename_i hq
          cases hu
          simp only [Bool.or_eq_true, List.contains_eq_mem, decide_eq_true_eq, not_or] at hq
          exact hp.elim hq.1 hq.2
      | _ => cases hu
theorem ERel.clean {base : Nat} {φ : Phi} {ψ : Nat → Nat} {e : Env} {tm : Array Value} {w : World} (h : ERel lim base φ ψ e tm w) (ks ts : List Nat) : ERel lim base φ ψ (Env.clean ks ts e) tm w := by
  have key : ∀ p t, (Env.clean ks ts e)[p]? = some t → t = .poison ∨ (e[p]? = some t ∧ p ∉ ks ∧ (∀ cs, t = .loc cs → p ∉ ts) ∧ ∀ q o, t = .laddr q o → q ∉ ks ∧ q ∉ ts) := fun p t ht => by
    rw [clean_get] at ht
    obtain ⟨u, hu, he⟩ := Option.map_eq_some_iff.1 ht
    unfold T.clean at he
    split at he
    · exact .inl he.symm
    · rename_i hk
      simp only [List.contains_eq_mem, decide_eq_true_eq] at hk
      cases u with
      | loc cs =>
        simp only [List.contains_eq_mem, decide_eq_true_eq] at he
        split at he
        · exact .inl he.symm
        · rename_i h2; subst he; exact .inr ⟨hu, hk, fun _ _ => h2, fun q o h => (by cases h)⟩
      | laddr q o =>
        simp only [Bool.or_eq_true, List.contains_eq_mem, decide_eq_true_eq] at he
        split at he
        · exact .inl he.symm
        · rename_i h2; subst he; exact .inr ⟨hu, hk, fun _ h => (by cases h), fun q' o' h => (by cases h; exact ⟨fun h => h2 (.inl h), fun h => h2 (.inr h)⟩)⟩
      | poison => exact .inl he.symm
      | val v => simp only at he; subst he; exact .inr ⟨hu, hk, fun _ h => (by cases h), fun q' o' h => (by cases h)⟩
  have hloc : ∀ (p : Nat) cs, (Env.clean ks ts e)[p]? = some (.loc cs) → e[p]? = some (.loc cs) := fun p cs hp => by
    rcases key p _ hp with h | h
    · cases h
    · exact h.1
  refine ⟨clean_length.trans h.len, fun p t ht => ?_, fun p q cs cs' hp hq e' => h.inj p q cs cs' (hloc _ _ hp) (hloc _ _ hq) e', fun p cs hp => h.low p cs (hloc _ _ hp)⟩
  rcases key p t ht with rfl | ⟨h1, h2, h3, h4⟩
  · have hlt : p < tm.size := by rw [← h.len, ← clean_length (ks := ks) (ts := ts)]; exact (List.getElem?_eq_some_iff.1 ht).1
    exact ⟨tm[p], by simp [hlt], trivial⟩
  · obtain ⟨x, hx, hr⟩ := h.tmp p t h1
    refine ⟨x, hx, ?_⟩
    cases t with
    | poison => trivial
    | val v => exact hr
    | loc cs => exact hr
    | laddr q o =>
      obtain ⟨h5, cs, h6⟩ := hr
      obtain ⟨h7, h8⟩ := h4 q o rfl
      refine ⟨h5, cs, ?_⟩
      rw [clean_get, h6]
      simp [T.clean, h7, h8]
theorem HRel.drewN {φ : Phi} {H : Heap} {w : World} (h : HRel lim φ H w) (n : Nat) : HRel lim φ H { w with drawn := n } := ⟨h.low, h.dom, h.bound, h.cells, h.maps, h.inj⟩
theorem ERel.drewN {base : Nat} {φ : Phi} {ψ : Nat → Nat} {e : Env} {tm : Array Value} {w : World} (h : ERel lim base φ ψ e tm w) (n : Nat) : ERel lim base φ ψ e tm { w with drawn := n } := by
  refine ⟨h.len, fun p t ht => ?_, h.inj, h.low⟩
  obtain ⟨x, hx, hr⟩ := h.tmp p t ht
  refine ⟨x, hx, ?_⟩
  cases t <;> exact hr
theorem Ext.drewN {φ0 φ : Phi} {w0 w : World} (h : Ext lim φ0 w0 φ w) (n : Nat) : Ext lim φ0 w0 φ { w with drawn := n } := ⟨h.mono, h.fresh, h.size, h.same, h.os, h.tape, h.output, h.froz⟩

section code
variable {ext : FuncId → Env → Heap → Rs} {prog : FuncId → Option RFunc} {f : FuncId} {rf : RFunc} {φ0 : Phi} {w0 : World} {r : V × Heap}

/-- a state of the frame that goes on well -/
def Good (lim : Nat) (φ0 : Phi) (w0 : World) (r : V × Heap) (G : Env → Heap → Rs) (a : Act) (w : World) : Prop :=
  ∃ e H φ ψ, G e H = some r ∧ ERel lim w0.heap.size φ ψ e a.tmps w ∧ HRel lim φ H w ∧ Ext lim φ0 w0 φ w ∧ a.defers = []
def QK (lim : Nat) (φ0 : Phi) (w0 : World) (r : V × Heap) (fin : Env → Heap → Rs) (K : KT) : Exit → Act → World → Prop
  | .normal, a, w => Good lim φ0 w0 r (K .normal) a w
  | .exit id, a, w => Good lim φ0 w0 r (K (.exit id)) a w
  | .ret, a, w => Good lim φ0 w0 r fin a w
  | _, _, _ => False
theorem QK_le {fin : Env → Heap → Rs} {K K' : KT} (h : ∀ fl e H x, K fl e H = some x → K' fl e H = some x) : ∀ ex a w, QK lim φ0 w0 r fin K ex a w → QK lim φ0 w0 r fin K' ex a w := by
  intro ex a w hq
  cases ex with
  | normal => obtain ⟨e, H, φ, ψ, h1, h2⟩ := hq; exact ⟨e, H, φ, ψ, h _ _ _ _ h1, h2⟩
  | exit id => obtain ⟨e, H, φ, ψ, h1, h2⟩ := hq; exact ⟨e, H, φ, ψ, h _ _ _ _ h1, h2⟩
  | ret => exact hq
  | _ => exact hq

def Holds (ext : FuncId → Env → Heap → Rs) (prog : FuncId → Option RFunc) (lim : Nat) (P : Program) (f : FuncId) (rf : RFunc) (k : Nat) (c : RC) : Prop :=
  ∀ (x : Code) (K : Nat → KT), chkRC P c x = true → (labels c).Nodup → (∀ j fl e H y, K j fl e H = some y → K (j + 1) fl e H = some y) →
    (∀ j l, l ∈ labels c → find lim (callOf (runN ext prog lim j)) (runN ext prog lim j f) (finish rf) l rf.body (endK rf) = find lim (callOf (runN ext prog lim j)) (runN ext prog lim j f) (finish rf) l c (K j)) →
    ∀ (φ0 : Phi) (w0 : World) (r : V × Heap) (e : Env) (H : Heap) (φ : Phi) (ψ : Nat → Nat) (a : Act) (w : World),
      exec lim (callOf (runN ext prog lim k)) (runN ext prog lim k f) (finish rf) c e H (K k) = some r → ERel lim w0.heap.size φ ψ e a.tmps w → HRel lim φ H w → Ext lim φ0 w0 φ w → a.defers = [] →
      x.wp P (QK lim φ0 w0 r (finish rf) (K k)) a w

theorem le_of_up {α : Type} {g : Nat → Option α} (h : ∀ j y, g j = some y → g (j + 1) = some y) {j k : Nat} (hjk : j ≤ k) {y : α} (hy : g j = some y) : g k = some y := by
  obtain ⟨d, rfl⟩ := Nat.exists_eq_add_of_le hjk
  clear hjk
  induction d with
  | zero => exact hy
  | succ d ih => exact h _ _ ih

theorem jump_eq (hp : prog f = some rf) (h0 : 0 ∉ labels rf.body) {k l : Nat} {e : Env} {H : Heap} (hl : l ∈ labels rf.body) (h : runN ext prog lim k f l e H = some r) :
    ∃ k' g, k = k' + 1 ∧ find lim (callOf (runN ext prog lim k')) (runN ext prog lim k' f) (finish rf) l rf.body (endK rf) = some g ∧ g e H = some r := by
  cases k with
  | zero => simp [runN] at h
  | succ k' =>
    have hl0 : l ≠ 0 := fun e => h0 (e ▸ hl)
    simp only [runN, stepR, hp, hl0, if_false] at h
    split at h
    · rename_i g hg; exact ⟨k', g, rfl, hg, h⟩
    · cases h

theorem holds_all (hp : prog f = some rf) (h0 : 0 ∉ labels rf.body) : ∀ (k : Nat), (∀ j, j ≤ k → CallOK lim P (callOf (runN ext prog lim j))) → ∀ (c : RC), (∀ l ∈ labels c, l ∈ labels rf.body) → Holds ext prog lim P f rf k c := by
  intro k
  induction k using Nat.strongRecOn with
  | _ k ihk =>
    intro hcall c
    have hup : ∀ j g l e H y, runN ext prog lim j g l e H = some y → runN ext prog lim (j + 1) g l e H = some y := fun j g l e H y h => runN_up ext prog lim j g l e H y h
    induction c with
    | skip =>
      intro hlab x K hx hnd hmono hcons φ0 w0 r e H φ ψ a w h he hH hext hd
      cases x <;> simp [chkRC] at hx
      exact wp_skip ⟨e, H, φ, ψ, h, he, hH, hext, hd⟩
    | exit id =>
      intro hlab x K hx hnd hmono hcons φ0 w0 r e H φ ψ a w h he hH hext hd
      cases x <;> simp [chkRC] at hx
      subst hx
      exact wp_exit ⟨e, H, φ, ψ, h, he, hH, hext, hd⟩
    | ret =>
      intro hlab x K hx hnd hmono hcons φ0 w0 r e H φ ψ a w h he hH hext hd
      cases x <;> simp [chkRC] at hx
      exact wp_ret ⟨e, H, φ, ψ, h, he, hH, hext, hd⟩
    | stuck =>
      intro hlab x K hx hnd hmono hcons φ0 w0 r e H φ ψ a w h he hH hext hd
      simp [exec] at h
    | ops o =>
      intro hlab x K hx hnd hmono hcons φ0 w0 r e H φ ψ a w h he hH hext hd
      cases x <;> try (simp [chkRC] at hx; done)
      rename_i id ops draw
      cases draw
      case true => simp [chkRC] at hx
      simp only [chkRC, beq_iff_eq] at hx
      simp only [exec] at h
      refine wp_region ?_
      have := ops_sound (hcall k (Nat.le_refl k)) (ops := ops) (Q := QK lim φ0 w0 r (finish rf) (K k)) (φ0 := φ0) (w0 := w0) o (fun e' H' => K k .normal e' H') r none 0 ops.size a e H φ ψ w [] hx trivial h he hH hext
        (fun e' H' φ' ψ' a' w' hk hl => by
          simp only [wpOps]
          exact ⟨e', H', φ', ψ', hk, hl.env, hl.heap, hl.ext, hl.defers.trans hd⟩)
      simpa [List.range_eq_range'] using this
    | dops perm ks ts o =>
      intro hlab x K hx hnd hmono hcons φ0 w0 r e H φ ψ a w h he hH hext hd
      cases x <;> try (simp [chkRC] at hx; done)
      rename_i id ops draw
      cases draw
      case false => simp [chkRC] at hx
      simp only [chkRC, chkDraw] at hx
      split at hx
      · rename_i its hr
        simp only [Bool.and_eq_true, List.all_eq_true, List.contains_eq_mem, decide_eq_true_eq] at hx
        obtain ⟨⟨⟨⟨⟨hm, hrow⟩, hndd⟩, hsub⟩, hW⟩, hks⟩ := hx
        simp only [exec] at h
        split at h
        · rename_i hlen
          simp only [List.all_eq_true, decide_eq_true_eq] at hlen
          have hfree : Free (Env.clean ks ts e) (dsts o) := clean_free.sub hsub
          obtain ⟨eF, HF, h1, h2, _⟩ := row_run o (fun e' H' => K k .normal e' H') r none perm [] its (Env.clean ks ts e) H hr trivial (nodup_eq hndd) hfree (fun p hp => by rw [clean_length]; exact hlen p (hsub p hp)) h
          refine wp_region_any hm ?_
          have hall : its.filter (unl (Array.replicate ops.size false)) = its := by
            refine List.filter_eq_self.2 fun it hit => ?_
            have hrow' := hrow
            simp only [chkRow2, Bool.and_eq_true, List.all_eq_true] at hrow'
            have := hrow'.1.1.1.1 it hit
            unfold chkIt at this
            split at this
            · rename_i o' ho'
              have := (Array.getElem?_eq_some_iff.1 ho').1
              simp [unl, this]
            · cases this
          have hl : its.length = ops.size := by
            simp only [chkRow2, Bool.and_eq_true, beq_iff_eq] at hrow; exact hrow.1.1.1.2
          have h0 : ∀ i : Nat, (Array.replicate ops.size false).getD i false = false := fun i => by
            rw [Array.getD_eq_getD_getElem?, Array.getElem?_replicate]
            split <;> simp
          have hund : its.filter (undone fun _ => false) = its := List.filter_eq_self.2 fun it hit => rfl
          refine draw_any2 (hcall k (Nat.le_refl k)) (Q := QK lim φ0 w0 r (finish rf) (K k)) (φ0 := φ0) (w0 := w0) hrow (eF := eF) (HF := HF) (d0 := []) (fun z hz p hp => ?_) (fun a' w' φ' ψ' he' hH' hx' hd' => ⟨eF, HF, φ', ψ', h1, he', hH', hx', hd'⟩)
            ops.size (Array.replicate ops.size false) (fun _ => false) (fun _ => 0) a _ (Env.clean ks ts e) H φ ψ (by simp) (by rw [hall, hl]) (fun i j hj hi => ?_)
            ⟨fun y hy h => (by simp at h), fun y hy _ h => (by rw [h0] at h; cases h), fun y hy z hz _ _ h => (by rw [h0] at h; cases h), (by rw [hund]; exact h2), (by rw [hund]; exact hfree.sub hW), fun y hy _ d o' ha hal t ht => ?_, (he.clean ks ts).drewN _, hH.drewN _, hext.drewN _⟩
            (fun y ys _ => h0 _) hd
          · have := hW p (by simp only [W, List.mem_flatMap]; exact ⟨z, hz, hp⟩)
            rw [flat_len h2, clean_length]; exact hlen p (hsub p this)
          · rw [h0] at hi; cases hi
          · have := hks y hy
            rw [ha] at this
            have hal' : At.allocs (.op (some d) o') = true := hal
            simp only [hal', Bool.not_true, Bool.false_or, At.writes, Option.toList, List.all_cons, List.all_nil, Bool.and_true, List.contains_eq_mem, decide_eq_true_eq] at this
            rw [clean_get] at ht
            obtain ⟨u, hu, rfl⟩ := Option.map_eq_some_iff.1 ht
            simp [T.clean, this]
        · cases h
      · cases hx
    | seq c1 c2 ih1 ih2 =>
      intro hlab x K hx hnd hmono hcons φ0 w0 r e H φ ψ a w h he hH hext hd
      cases x <;> simp [chkRC] at hx
      rename_i x1 x2
      simp only [labels, List.nodup_append] at hnd
      simp only [exec] at h
      refine wp_seq ?_
      have hm1 : ∀ j fl e H y, seqK (fun e' H' => exec lim (callOf (runN ext prog lim j)) (runN ext prog lim j f) (finish rf) c2 e' H' (K j)) (K j) fl e H = some y →
          seqK (fun e' H' => exec lim (callOf (runN ext prog lim (j + 1))) (runN ext prog lim (j + 1) f) (finish rf) c2 e' H' (K (j + 1))) (K (j + 1)) fl e H = some y := by
        intro j fl e H y hy
        cases fl with
        | normal => exact exec_le (fun g vs H x h => hup j g 0 _ H x h) (fun l e H x h => hup j f l e H x h) (hmono j) c2 e H hy
        | exit id => exact hmono j _ _ _ _ hy
      have h1 := ih1 (fun l hl => hlab l (by simp [labels, hl])) x1 (fun j => seqK (fun e' H' => exec lim (callOf (runN ext prog lim j)) (runN ext prog lim j f) (finish rf) c2 e' H' (K j)) (K j)) hx.1 hnd.1 hm1
        (fun j l hl => by
          rw [hcons j l (by simp [labels, hl])]
          obtain ⟨g, hg⟩ := find_some (lim := lim) (call := callOf (runN ext prog lim j)) (jump := runN ext prog lim j f) (fin := finish rf) c1 (seqK (fun e' H' => exec lim (callOf (runN ext prog lim j)) (runN ext prog lim j f) (finish rf) c2 e' H' (K j)) (K j)) hl
          simp only [find, hg]; rfl) φ0 w0 r e H φ ψ a w h he hH hext hd
      refine wp_mono h1 fun ex a' w' hq => ?_
      cases ex with
      | normal =>
        obtain ⟨e', H', φ', ψ', g1, g2, g3, g4, g5⟩ := hq
        exact ih2 (fun l hl => hlab l (by simp [labels, hl])) x2 K hx.2 hnd.2.1 hmono
          (fun j l hl => by
            rw [hcons j l (by simp [labels, hl])]
            have hn : l ∉ labels c1 := fun h1 => hnd.2.2 l h1 l hl rfl
            simp only [find]; rw [find_none c1 _ hn]; rfl) φ0 w0 r e' H' φ' ψ' a' w' g1 g2 g3 g4 g5
      | exit id => exact hq
      | ret => exact hq
      | _ => exact hq
    | cond xx c1 c2 j ih1 ih2 =>
      intro hlab x K hx hnd hmono hcons φ0 w0 r e H φ ψ a w h he hH hext hd
      cases x <;> simp [chkRC] at hx
      rename_i y x1 x2
      obtain ⟨⟨hxc, hx1⟩, hx2⟩ := hx
      simp only [labels, List.nodup_append] at hnd
      obtain ⟨hnj, ⟨hn1, hn2, hn12⟩, hnj2⟩ := hnd
      simp only [exec] at h
      obtain ⟨b, hb, h⟩ := Option.bind_eq_some_iff.1 h
      have hcv := evB_rel he hxc hb
      have hm1 : ∀ i fl e H y, joinK (runN ext prog lim i f) j (K i) fl e H = some y → joinK (runN ext prog lim (i + 1) f) j (K (i + 1)) fl e H = some y := by
        intro i fl e H y hy
        cases j with
        | none => exact hmono i _ _ _ _ hy
        | some p =>
          cases fl with
          | normal => exact hup i f p.1 _ H y hy
          | exit id => exact hmono i _ _ _ _ hy
      have hfin : ∀ ex a' w', QK lim φ0 w0 r (finish rf) (joinK (runN ext prog lim k f) j (K k)) ex a' w' → QK lim φ0 w0 r (finish rf) (K k) ex a' w' := by
        intro ex a' w' hq
        cases j with
        | none => exact hq
        | some p =>
          obtain ⟨l, dead⟩ := p
          cases ex with
          | normal =>
            obtain ⟨e', H', φ', ψ', g1, g2, g3, g4, g5⟩ := hq
            have hl : l ∈ labels (.cond xx c1 c2 (some (l, dead))) := by simp [labels]
            obtain ⟨k', g, rfl, hg, hr⟩ := jump_eq hp h0 (hlab l hl) g1
            rw [hcons k' l hl] at hg
            simp only [find, Option.map_some, if_true, Option.some.injEq] at hg
            subst hg
            exact ⟨_, H', φ', ψ', hmono k' _ _ _ _ hr, g2.kill dead, g3, g4, g5⟩
          | exit id => exact hq
          | ret => exact hq
          | _ => exact hq
      have hnj' : ∀ l, (l ∈ labels c1 ∨ l ∈ labels c2) → ¬ (j.map (·.1)) = some l := by
        intro l hl e'
        exact hnj2 l (by rw [e']; simp) l (List.mem_append.2 hl) rfl
      refine wp_cond hcv ?_
      cases b with
      | true =>
        simp only [if_true] at h ⊢
        refine wp_mono (ih1 (fun l hl => hlab l (by simp [labels, hl])) x1 (fun i => joinK (runN ext prog lim i f) j (K i)) hx1 hn1 hm1 (fun i l hl => ?_) φ0 w0 r e H φ ψ a w h he hH hext hd) hfin
        rw [hcons i l (by simp [labels, hl])]
        obtain ⟨g, hg⟩ := find_some (lim := lim) (call := callOf (runN ext prog lim i)) (jump := runN ext prog lim i f) (fin := finish rf) c1 (joinK (runN ext prog lim i f) j (K i)) hl
        simp only [find, hnj' l (.inl hl), if_false, hg]; rfl
      | false =>
        simp only [Bool.false_eq_true, if_false] at h ⊢
        refine wp_mono (ih2 (fun l hl => hlab l (by simp [labels, hl])) x2 (fun i => joinK (runN ext prog lim i f) j (K i)) hx2 hn2 hm1 (fun i l hl => ?_) φ0 w0 r e H φ ψ a w h he hH hext hd) hfin
        rw [hcons i l (by simp [labels, hl])]
        have hn : l ∉ labels c1 := fun h1 => hn12 l h1 l hl rfl
        simp only [find, hnj' l (.inr hl), if_false]; rw [find_none c1 _ hn]; rfl
    | block id c ih =>
      intro hlab x K hx hnd hmono hcons φ0 w0 r e H φ ψ a w h he hH hext hd
      cases x <;> simp [chkRC] at hx
      rename_i id' x1
      obtain ⟨rfl, hx1⟩ := hx
      simp only [exec] at h
      refine wp_block (wp_mono (ih hlab x1 (fun i => blockK id (K i)) hx1 hnd (fun i fl e H y hy => ?_) (fun i l hl => by rw [hcons i l hl]; rfl) φ0 w0 r e H φ ψ a w h he hH hext hd) fun ex a' w' hq => ?_)
      · cases fl with
        | normal => exact hmono i _ _ _ _ hy
        | exit i' =>
          simp only [blockK] at hy ⊢
          split at hy
          · rename_i hh; rw [if_pos hh]; exact hmono i _ _ _ _ hy
          · rename_i hh; rw [if_neg hh]; exact hmono i _ _ _ _ hy
      · cases ex with
        | normal => exact hq
        | exit i' =>
          obtain ⟨e', H', φ', ψ', g1, g2⟩ := hq
          simp only [blockK] at g1
          simp only [Exit.inBlock]
          split at g1
          · rename_i hh; rw [if_pos hh]; exact ⟨e', H', φ', ψ', g1, g2⟩
          · rename_i hh; rw [if_neg hh]; exact ⟨e', H', φ', ψ', g1, g2⟩
        | ret => exact hq
        | _ => exact hq
    | loop l dead c ih =>
      intro hlab x K hx hnd hmono hcons φ0 w0 r e H φ ψ a w h he hH hext hd
      cases x <;> simp [chkRC] at hx
      rename_i x1
      simp only [exec] at h
      simp only [labels, List.nodup_cons] at hnd
      have hll : l ∈ labels (.loop l dead c) := by simp [labels]
      have hmK : ∀ (i : Nat) fl e H y, loopK (runN ext prog lim i f) l dead (K i) fl e H = some y → loopK (runN ext prog lim (i + 1) f) l dead (K (i + 1)) fl e H = some y := by
        intro i fl e H y hy
        cases fl with
        | normal => exact hup i f l _ H y hy
        | exit id => exact hmono i _ _ _ _ hy
      have rounds : ∀ (m : Nat), m ≤ k → ∀ (e : Env) (H : Heap) (φ : Phi) (ψ : Nat → Nat) (a : Act) (w : World), runN ext prog lim m f l e H = some r → ERel lim w0.heap.size φ ψ e a.tmps w → HRel lim φ H w → Ext lim φ0 w0 φ w → a.defers = [] →
          ∀ (b : Frame) (kk : List Item) (cs : List Frame), ∃ ex a' w', QK lim φ0 w0 r (finish rf) (K k) ex a' w' ∧ Arrives P (lone (b.at a (.code x1 :: .inLoop x1 :: kk)) cs w) b kk cs ex a' w' := by
        intro m
        induction m using Nat.strongRecOn with
        | _ m ihm =>
          intro hmk e H φ ψ a w hrun he hH hext hd b kk cs
          obtain ⟨m', g, rfl, hg, hr⟩ := jump_eq hp h0 (hlab l hll) hrun
          rw [hcons m' l hll] at hg
          simp only [find, if_true, Option.some.injEq] at hg
          subst hg
          have hw := ihk m' (by omega) (fun j hj => hcall j (by omega)) c (fun l' hl' => hlab l' (by simp [labels, hl'])) x1 (fun i => loopK (runN ext prog lim i f) l dead (K i)) hx hnd.2 hmK
            (fun i l' hl' => by
              rw [hcons i l' (by simp [labels, hl'])]
              have hne : ¬ l = l' := fun e' => hnd.1 (e' ▸ hl')
              simp only [find, hne, if_false]) φ0 w0 r e H φ ψ a w hr he hH hext hd
          obtain ⟨ex, a1, w1, hq, harr⟩ := hw b (.inLoop x1 :: kk) cs
          cases ex with
          | normal =>
            obtain ⟨e', H', φ', ψ', g1, g2, g3, g4, g5⟩ := hq
            obtain ⟨ex2, a2, w2, hq2, harr2⟩ := ihm m' (by omega) (by omega) (Env.kill dead e') H' φ' ψ' a1 w1 g1 (g2.kill dead) g3 g4 g5 b kk cs
            exact ⟨ex2, a2, w2, hq2, .of_steps (Steps.trans harr (.one step_inLoop)) harr2⟩
          | exit id =>
            refine ⟨.exit id, a1, w1, ?_, .pass (x := .inLoop x1) rfl (fun _ _ => .inl (by simp)) harr⟩
            obtain ⟨e', H', φ', ψ', g1, g2⟩ := hq
            exact ⟨e', H', φ', ψ', le_of_up (fun j y hy => hmono j _ _ _ _ hy) (by omega) g1, g2⟩
          | ret => exact ⟨.ret, a1, w1, hq, .pass (x := .inLoop x1) rfl (fun _ _ => .inl (by simp)) harr⟩
          | goto _ => exact hq.elim
          | panic _ => exact hq.elim
          | outgrown => exact hq.elim
      intro b kk cs
      obtain ⟨ex, a', w', hq, harr⟩ := rounds k (Nat.le_refl k) _ H φ ψ a w h (he.kill dead) hH hext hd b kk cs
      exact ⟨ex, a', w', hq, .of_steps (.one step_loop) harr⟩

/-! ### results -/
theorem res1_rel {φ : Phi} {ψ : Nat → Nat} {e : Env} {H : Heap} {ts : Array Value} {base : Nat} {w : World} (he : ERel lim base φ ψ e ts w) (hH : HRel lim φ H w) {q : Res} {x : ResultVar} (hc : chkRes1 P q x = true) {v : V} (h : res1 e H q = some v) :
    ∃ u, (match x with | .tmp t => pure (ts.getD t undef) | .cell a t => do loadVar t (← asAddr (ts.getD a undef)) : Sem Value).run P w = .ok u w ∧ VRel lim φ v u := by
  have hE : ERel lim base φ ψ e ({ tmps := ts, defers := [] } : Act).tmps w := he
  cases q with
  | t p =>
    cases x <;> simp [chkRes1] at hc
    subst hc
    exact ⟨_, rfl, ev_rel hE (x := .t p) (y := .tmp p) (by simp [chkX]) h⟩
  | cell1 a =>
    cases x <;> simp [chkRes1] at hc
    rename_i b t
    obtain ⟨rfl, hs⟩ := hc
    simp only [res1] at h
    rcases placeK_some h with ⟨p, o, hpl, h⟩ | ⟨i, o, hpl, h⟩
    · obtain ⟨hv, cs, h1, h2⟩ := place_rel hE (x := .t a) (y := .tmp a) (by simp [chkX]) hpl
      simp only [Act.eval] at hv
      obtain ⟨cs', hcs, h⟩ := Option.bind_eq_some_iff.1 h
      have := locCells_eq hcs h1; subst this
      obtain ⟨c, hcc, h⟩ := Option.bind_eq_some_iff.1 h
      cases h
      obtain ⟨u, hu, hr⟩ := h2.cell hcc
      exact ⟨u, by simp [hv, asAddr, loadVar_one hs hu], .c hr⟩
    · obtain ⟨p, hp, hv⟩ := place_rel hE (x := .t a) (y := .tmp a) (by simp [chkX]) hpl
      simp only [Act.eval] at hv
      obtain ⟨c, hcc, h⟩ := Option.bind_eq_some_iff.1 h
      cases h
      obtain ⟨u, hu, hr⟩ := hH.ld hcc hp
      exact ⟨u, by simp [hv, asAddr, loadVar_one hs hu], .c hr⟩
  | cells a n =>
    cases x <;> simp [chkRes1] at hc
    rename_i b t
    obtain ⟨⟨rfl, hs⟩, hn⟩ := hc
    simp only [res1] at h
    rcases placeK_some h with ⟨p, o, hpl, h⟩ | ⟨i, o, hpl, h⟩
    · obtain ⟨hv, cs, h1, h2⟩ := place_rel hE (x := .t a) (y := .tmp a) (by simp [chkX]) hpl
      simp only [Act.eval] at hv
      obtain ⟨cs', hcs, h⟩ := Option.bind_eq_some_iff.1 h
      have := locCells_eq hcs h1; subst this
      split at h
      · rename_i hle
        cases h
        obtain ⟨A, hA, hr⟩ := h2.cells (P := P) hle
        exact ⟨.agg A, by simp [hv, asAddr, loadVar_many hs hn hA], .agg hr⟩
      · cases h
    · obtain ⟨p, hp, hv⟩ := place_rel hE (x := .t a) (y := .tmp a) (by simp [chkX]) hpl
      simp only [Act.eval] at hv
      obtain ⟨xs, hxs, h⟩ := Option.bind_eq_some_iff.1 h
      cases h
      obtain ⟨A, hA, hr, _⟩ := hH.ldN (P := P) hxs hp
      exact ⟨.agg A, by simp [hv, asAddr, loadVar_many hs hn hA], .agg hr⟩

theorem resAll_rel {φ : Phi} {ψ : Nat → Nat} {e : Env} {H : Heap} {ts : Array Value} {base : Nat} {w : World} (he : ERel lim base φ ψ e ts w) (hH : HRel lim φ H w) : ∀ (qs : List Res) (xs : List ResultVar) {vs : List V}, chkRes P qs xs = true → resAll e H qs = some vs →
    ∃ us, (xs.mapM fun x => (match x with | .tmp t => pure (ts.getD t undef) | .cell a t => do loadVar t (← asAddr (ts.getD a undef)) : Sem Value)).run P w = .ok us w ∧ VsRel lim φ vs us
  | [], [], _, _, h => by simp only [resAll, Option.some.injEq] at h; subst h; exact ⟨[], by simp, .nil⟩
  | q :: qs, x :: xs, _, hc, h => by
    simp only [chkRes, Bool.and_eq_true] at hc
    simp only [resAll] at h
    obtain ⟨v, hv, h⟩ := Option.bind_eq_some_iff.1 h
    obtain ⟨vs, hvs, h⟩ := Option.bind_eq_some_iff.1 h
    cases h
    obtain ⟨u, h1, h2⟩ := res1_rel (P := P) he hH hc.1 hv
    obtain ⟨us, h3, h4⟩ := resAll_rel he hH qs xs hc.2 hvs
    exact ⟨u :: us, by simp only [List.mapM_cons, Sem.run_bind, h1, Result.andThen_ok, h3, Sem.run_pure], .cons h2 h4⟩
  | [], _ :: _, _, hc, _ => by simp [chkRes] at hc
  | _ :: _, [], _, hc, _ => by simp [chkRes] at hc

theorem finish_rel {φ : Phi} {ψ : Nat → Nat} {e : Env} {H : Heap} {ts : Array Value} {base : Nat} {w : World} (he : ERel lim base φ ψ e ts w) (hH : HRel lim φ H w) {fn : Func} (hc : chkRes P rf.res fn.results.toList = true) (h : finish rf e H = some r) :
    ∃ u, (results fn ts).run P w = .ok u w ∧ VRel lim φ r.1 u ∧ r.2 = H := by
  unfold finish at h
  obtain ⟨vs, hvs, h⟩ := Option.bind_eq_some_iff.1 h
  obtain ⟨us, h1, h2⟩ := resAll_rel (P := P) he hH _ _ hc hvs
  have hm : (fn.results.mapM fun x => (match x with | .tmp t => pure (ts.getD t undef) | .cell a t => do loadVar t (← asAddr (ts.getD a undef)) : Sem Value)).run P w = .ok us.toArray w := by
    rw [Array.mapM_eq_mapM_toList]; simp only [Sem.run_map, h1, Result.andThen_ok]
  have hlen := h2.length
  have hres : (results fn ts).run P w = .ok (if h : us.toArray.size = 1 then us.toArray[0] else .tuple us.toArray) w := by
    unfold results
    simp only [Sem.run_bind]
    have he2 : (fun x => (match x with | .tmp t => pure (ts.getD t undef) | .cell a t => do loadVar t (← asAddr (ts.getD a undef)) : Sem Value)) = fun (x : ResultVar) => (match x with | .tmp t => pure (ts.getD t undef) | .cell a t => do loadVar t (← asAddr (ts.getD a undef)) : Sem Value) := rfl
    first | (rw [hm]; rfl) | (simp only [hm]; rfl) | exact (congrArg (fun r => Result.andThen r _) hm)
  rw [hres]
  split at h
  · rename_i v
    cases h
    cases h2 with
    | cons a b => cases b with
      | nil => exact ⟨_, rfl, by simpa using a, rfl⟩
  · rename_i vs' hne
    cases h
    have : us.length ≠ 1 := by
      intro h1'
      rw [h1'] at hlen
      obtain ⟨v, hv⟩ := List.length_eq_one_iff.1 hlen
      exact hne v hv
    refine ⟨_, rfl, ?_, rfl⟩
    simp only [List.size_toArray, this, dif_neg, not_false_eq_true]
    exact .tuple (by simpa using h2)

theorem start_rel {φ : Phi} {w : World} {vs : List V} {args : Array Value} (h : VsRel lim φ vs args.toList) (n : Nat) :
    ERel lim w.heap.size φ (fun _ => 0) (vs.map .val ++ List.replicate (n - (vs.map T.val).length) .poison) (args ++ Array.replicate (n - args.size) undef) w := by
  have hl := h.length
  simp only [Array.length_toList] at hl
  have key : ∀ (p : Nat) t, (vs.map T.val ++ List.replicate (n - (vs.map T.val).length) .poison)[p]? = some t → (∃ v, t = .val v ∧ vs[p]? = some v) ∨ (t = .poison ∧ args.size ≤ p) := by
    intro p t ht
    by_cases hp : p < vs.length
    · rw [List.getElem?_append_left (by simpa using hp), List.getElem?_map] at ht
      simp only [List.getElem?_eq_getElem hp, Option.map_some, Option.some.injEq] at ht
      exact .inl ⟨_, ht.symm, by simp [hp]⟩
    · rw [List.getElem?_append_right (by simpa using hp), List.getElem?_replicate] at ht
      split at ht
      · cases ht; exact .inr ⟨rfl, by omega⟩
      · cases ht
  refine ⟨by simp [hl], fun p t ht => ?_, fun p q cs cs' hp _ _ => ?_, fun p cs hp => ?_⟩
  · have hlt := (List.getElem?_eq_some_iff.1 ht).1
    simp only [List.length_append, List.length_map, List.length_replicate] at hlt
    rcases key p t ht with ⟨v, rfl, hv⟩ | ⟨rfl, hp⟩
    · obtain ⟨u, hu, hr⟩ := h.get hv
      have hps : p < args.size := by have := (List.getElem?_eq_some_iff.1 hu).1; simpa using this
      exact ⟨u, by rw [Array.getElem?_append_left hps]; simpa using hu, hr⟩
    · refine ⟨undef, ?_, trivial⟩
      rw [Array.getElem?_append_right hp, Array.getElem?_replicate]
      rw [if_pos (by omega)]
  · rcases key p _ hp with ⟨v, h1, _⟩ | ⟨h1, _⟩ <;> cases h1
  · rcases key p _ hp with ⟨v, h1, _⟩ | ⟨h1, _⟩ <;> cases h1

theorem calls_ok {prog : FuncId → Option RFunc} (hext0 : CallOK lim P (fun f vs H => ext f (vs.map .val) H)) (hprog : ∀ f rf, prog f = some rf → chkFunc P f rf = true) : ∀ (k : Nat), CallOK lim P (callOf (runN ext prog lim k)) := by
  intro k
  induction k using Nat.strongRecOn with
  | _ k ih =>
    intro f vs H r H' h
    cases k with
    | zero => simp [callOf, runN] at h
    | succ k =>
      simp only [callOf, runN, stepR] at h
      split at h
      · simp only [if_true] at h
        exact hext0 f vs H r H' h
      · rename_i rf hp
        simp only [if_true] at h
        have hf := hprog f rf hp
        unfold chkFunc at hf
        split at hf
        · rename_i fn hfn
          split at hf
          · rename_i c hbody
            simp only [Bool.and_eq_true, beq_iff_eq, Bool.not_eq_true'] at hf
            obtain ⟨⟨⟨⟨h1, h2⟩, h3⟩, h4⟩, h5⟩ := hf
            have hnd := nodup_eq h4
            rw [List.nodup_cons] at hnd
            refine ⟨⟨fn, c, hfn, hbody, h5⟩, fun φ w args hH hvs => ?_⟩
            have hw := holds_all (lim := lim) (P := P) (f := f) hp hnd.1 k (fun j hj => ih j (by omega)) rf.body (fun l hl => hl) c (fun _ => endK rf) h1 hnd.2 (fun _ _ _ _ _ hy => hy) (fun _ _ _ => rfl) φ w (r, H')
              (vs.map .val ++ List.replicate (rf.ntmps - (vs.map T.val).length) .poison) H φ (fun _ => 0) { tmps := args ++ Array.replicate (fn.ntmps - args.size) undef, defers := [] } w h (by rw [h2]; exact start_rel hvs _) hH (.refl _ _) rfl
            refine calls_of_wp hfn hbody (wp_mono hw fun ex a' w' hq => ?_)
            have good : Good lim φ w (r, H') (finish rf) a' w' → a'.defers = [] ∧ ∃ v, (results fn a'.tmps).run P w' = .ok v w' ∧ ∃ u φ', Ending.returned v = .returned u ∧ VRel lim φ' r u ∧ HRel lim φ' H' w' ∧ Ext lim φ w φ' w' := by
              rintro ⟨e', H2, φ', ψ', g1, g2, g3, g4, g5⟩
              obtain ⟨u, f1, f2, f3⟩ := finish_rel (P := P) g2 g3 h3 g1
              simp only at f2 f3
              subst f3
              exact ⟨g5, u, f1, u, φ', rfl, f2, g3, g4⟩
            cases ex with
            | normal => exact good hq
            | ret => exact good hq
            | exit id =>
              obtain ⟨e', H2, φ', ψ', g1, _⟩ := hq
              simp [endK] at g1
            | goto _ => exact hq.elim
            | panic _ => exact hq.elim
            | outgrown => exact hq.elim
          · cases hf
        · cases hf

/-- WHAT THE MACHINE ANSWERS THE MODEL ANSWERS -/
theorem run_calls {prog : FuncId → Option RFunc} (hext0 : CallOK lim P (fun f vs H => ext f (vs.map .val) H)) (hprog : ∀ f rf, prog f = some rf → chkFunc P f rf = true) {f : FuncId} {vs : List V} {H H' : Heap} {r : V} (h : run ext prog lim f 0 (vs.map .val) H = some (r, H'))
    {φ : Phi} {w : World} {args : Array Value} (hH : HRel lim φ H w) (hvs : VsRel lim φ vs args.toList) :
    Calls P f args w fun e w' => ∃ v φ', e = .returned v ∧ VRel lim φ' r v ∧ HRel lim φ' H' w' ∧ Ext lim φ w φ' w' := by
  obtain ⟨k, hk⟩ := (apx_run ext prog lim f 0 (vs.map .val) H).ex _ h
  exact (calls_ok hext0 hprog k f vs H r H' hk).2 φ w args hH hvs
end code

/-! ### a program as a list -/
def lookF : List (FuncId × RFunc) → FuncId → Option RFunc
  | [], _ => none
  | x :: xs, f => if x.1 = f then some x.2 else lookF xs f
def AllOK (P : Program) : List (FuncId × RFunc) → Prop
  | [] => True
  | x :: xs => chkFunc P x.1 x.2 = true ∧ AllOK P xs
theorem lookF_ok {P : Program} : ∀ {l : List (FuncId × RFunc)}, AllOK P l → ∀ f rf, lookF l f = some rf → chkFunc P f rf = true
  | [], _, f, rf, h => by simp [lookF] at h
  | x :: xs, ha, f, rf, h => by
    simp only [lookF] at h
    split at h
    · rename_i hx; cases h; rw [← hx]; exact ha.1
    · exact lookF_ok ha.2 f rf h
def noExt : FuncId → Env → Heap → Rs := fun _ _ _ => none
def H0 : Heap := ⟨0, fun _ => none⟩
end Go.Proofs.Ytnnjklkfcleleaa.Vm
