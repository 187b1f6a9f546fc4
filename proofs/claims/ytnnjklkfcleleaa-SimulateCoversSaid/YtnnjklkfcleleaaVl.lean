/-
  ITEMS IN A ROW: what an item reads and writes; when two may be exchanged.
-/
import Derived.Test.YtnnjklkfcleleaaVk
namespace Go.Proofs.Ytnnjklkfcleleaa.Vm
open Go
set_option linter.unusedVariables false
set_option linter.unusedSimpArgs false

def At.reads : At → List Nat
  | .op _ o => o.slots
  | .lbox _ _ x => x.slots
  | .lnew _ _ => []
  | .st _ _ a x => a.slots ++ x.slots
  | .pick _ c keep _ _ => c :: keep.slots
def At.writes : At → List Nat
  | .op d _ => d.toList
  | .lbox _ p _ => [p]
  | .lnew p _ => [p]
  | .pick _ _ _ d ks => d :: ks
  | .st _ _ _ _ => []
def It.reads (it : It) : List Nat := (match it.g with
  | some (c, _) => [c]
  | none => []) ++ it.a.reads
/-- writes the heap not, reads it not -/
def At.neutral : At → Bool
  | .op _ o => o.neutral
  | .lbox _ _ _ | .lnew _ _ | .pick _ _ _ _ _ => true
  | _ => false
def At.quiet : At → Bool
  | .op _ o => o.quiet
  | .st _ _ _ _ => false
  | _ => true
/-- writes the frame only where it says -/
def At.tame : At → Bool
  | .st hp _ _ _ => hp
  | _ => true

def Env.sets : List (Nat × T) → Env → Env
  | [], e => e
  | x :: xs, e => Env.sets xs (e.set x.1 x.2)
theorem sets_length : ∀ {f : List (Nat × T)} {e : Env}, (Env.sets f e).length = e.length
  | [], e => rfl
  | x :: xs, e => by simp only [Env.sets]; rw [sets_length]; simp
theorem sets_get : ∀ {f : List (Nat × T)} {e : Env} {p : Nat}, p ∉ f.map (·.1) → (Env.sets f e)[p]? = e[p]?
  | [], e, p, _ => rfl
  | x :: xs, e, p, h => by
    simp only [List.map_cons, List.mem_cons, not_or] at h
    simp only [Env.sets]; rw [sets_get h.2, List.getElem?_set_ne (Ne.symm h.1)]
theorem sets_set {f : List (Nat × T)} {e : Env} {d : Nat} {t : T} (h : d ∉ f.map (·.1)) : Env.sets f (e.set d t) = (Env.sets f e).set d t := by
  induction f generalizing e with
  | nil => rfl
  | cons x xs ih =>
    simp only [List.map_cons, List.mem_cons, not_or] at h
    simp only [Env.sets]
    rw [List.set_comm _ _ h.1, ih h.2]
theorem sets_comm {f g : List (Nat × T)} {e : Env} (h : ∀ p ∈ g.map (·.1), p ∉ f.map (·.1)) : Env.sets g (Env.sets f e) = Env.sets f (Env.sets g e) := by
  induction g generalizing e with
  | nil => rfl
  | cons x xs ih =>
    simp only [List.map_cons, List.mem_cons, forall_eq_or_imp] at h
    simp only [Env.sets]
    rw [← sets_set h.1, ih h.2]
theorem sets_same {f : List (Nat × T)} {e : Env} {p : Nat} (hp : p ∉ f.map (·.1)) : Env.get (Env.sets f e) p = e.get p := by
  unfold Env.get; rw [List.getD_eq_getElem?_getD, List.getD_eq_getElem?_getD, sets_get hp]
theorem killS_sets : ∀ (ds : List Nat) (e : Env), Env.killS ds e = Env.sets (ds.map fun p => (p, T.poison)) e
  | [], _ => rfl
  | d :: ds, e => by simp only [Env.killS, List.map_cons, Env.sets]; exact killS_sets ds _
theorem setO_sets (d : Option Nat) (t : T) (e : Env) : e.setO d t = Env.sets (d.toList.map fun p => (p, t)) e := by cases d <;> rfl

/-- slots that an item may write: no local variable in them, no address into them -/
theorem Free.sets : ∀ {f : List (Nat × T)} {e : Env} {S : List Nat}, Free e S → (∀ x ∈ f, (∀ cs, x.2 = .loc cs → x.1 ∉ S) ∧ ∀ q o, x.2 = .laddr q o → q ∉ S) → Free (Env.sets f e) S
  | [], _, _, h, _ => h
  | x :: xs, e, S, h, hf => by
    simp only [Env.sets]
    exact Free.sets (h.set (hf x (by simp)).1 (hf x (by simp)).2) fun y hy => hf y (by simp [hy])
/-- an item's writes leave what another one reads, with the local variables that it is led to -/
theorem agree_sets {f : List (Nat × T)} {e : Env} {S W : List Nat} (hf : Free e W) (hw : ∀ p ∈ f.map (·.1), p ∈ W) (hd : ∀ p ∈ S, p ∉ f.map (·.1)) : Agree S e (Env.sets f e) := by
  intro p hp
  refine ⟨sets_same (hd p hp), fun q o hq => sets_same fun hqf => ?_⟩
  exact (hf q (hw q hqf)).2 _ _ hq
theorem Agree.symm {S : List Nat} {e e2 : Env} (h : Agree S e e2) : Agree S e2 e := fun p hp => by
  obtain ⟨h1, h2⟩ := h p hp
  exact ⟨h1.symm, fun q o hq => (h2 q o (h1.symm.trans hq)).symm⟩

section
variable {lim : Nat} {call : CallT}
/-- what an item does: writes to the frame that hang on what it reads alone -/
structure Does (lim : Nat) (call : CallT) (it : It) (e : Env) (H : Heap) (f : List (Nat × T)) (H2 : Heap) : Prop where
  slots : ∀ p, p ∈ f.map (·.1) → p ∈ it.a.writes
  same : ∀ e', Agree it.reads e e' → stepI lim call it e' H = some (Env.sets f e', H2)
  neutral : it.a.neutral = true → ∀ e' H', Agree it.reads e e' → stepI lim call it e' H' = some (Env.sets f e', H')
  quiet : it.a.quiet = true → H2 = H
  locs : ∀ x ∈ f, (∀ cs, x.2 = .loc cs → ∃ n y z, it.a = .lbox n x.1 y ∨ it.a = .lnew x.1 z) ∧ ∀ q o, x.2 = .laddr q o → Rooted e q
structure DoesA (lim : Nat) (call : CallT) (a : At) (e : Env) (H : Heap) (f : List (Nat × T)) (H2 : Heap) : Prop where
  slots : ∀ p, p ∈ f.map (·.1) → p ∈ a.writes
  same : ∀ e', Agree a.reads e e' → stepA lim call a e' H = some (Env.sets f e', H2)
  neutral : a.neutral = true → ∀ e' H', Agree a.reads e e' → stepA lim call a e' H' = some (Env.sets f e', H')
  quiet : a.quiet = true → H2 = H
  locs : ∀ x ∈ f, (∀ cs, x.2 = .loc cs → ∃ n y z, a = .lbox n x.1 y ∨ a = .lnew x.1 z) ∧ ∀ q o, x.2 = .laddr q o → Rooted e q

theorem stepA_does {a : At} {e e2 : Env} {H H2 : Heap} (ht : a.tame = true) (h : stepA lim call a e H = some (e2, H2)) : ∃ f, e2 = Env.sets f e ∧ DoesA lim call a e H f H2 := by
  cases a with
  | op d o =>
    simp only [stepA] at h
    obtain ⟨t, H1, h, hn⟩ := evalOp_nat h
    cases h
    refine ⟨d.toList.map fun p => (p, t), setO_sets d t e, ?_, fun e' ha => ?_, fun hne e' H' ha => ?_, hn.quiet, fun x hx => ?_⟩
    · intro p hp; simp only [List.map_map, List.mem_map, Function.comp] at hp; obtain ⟨q, hq, rfl⟩ := hp; exact hq
    · simp only [stepA]; rw [evalOp_agree ha, hn.all, setO_sets]
    · simp only [stepA]; rw [evalOp_agree ha, hn.neutral hne, setO_sets]
    · obtain ⟨q, hq, rfl⟩ := List.mem_map.1 hx
      exact ⟨fun cs hc => absurd hc (hn.noloc cs), fun q o hq => hn.root q o hq⟩
  | lbox n p x =>
    simp only [stepA] at h
    obtain ⟨v, hv, h⟩ := Option.bind_eq_some_iff.1 h
    obtain ⟨xs, hxs, h⟩ := Option.bind_eq_some_iff.1 h
    split at h
    · rename_i hl
      cases h
      refine ⟨[(p, .loc xs)], rfl, by simp [At.writes], fun e' ha => ?_, fun _ e' H' ha => ?_, fun _ => rfl, fun y hy => ?_⟩
      · simp only [stepA]; rw [ev_agree ha, hv, Option.bind_some, hxs, Option.bind_some, if_pos hl]; rfl
      · simp only [stepA]; rw [ev_agree ha, hv, Option.bind_some, hxs, Option.bind_some, if_pos hl]; rfl
      · simp only [List.mem_singleton] at hy; subst hy
        exact ⟨fun cs _ => ⟨n, x, [], .inl rfl⟩, fun q o hq => by cases hq⟩
    · cases h
  | lnew p z =>
    simp only [stepA] at h; cases h
    refine ⟨[(p, .loc z)], rfl, by simp [At.writes], fun e' ha => rfl, fun _ e' H' ha => rfl, fun _ => rfl, fun y hy => ?_⟩
    simp only [List.mem_singleton] at hy; subst hy
    exact ⟨fun cs _ => ⟨0, .c (.tuple []), z, .inr rfl⟩, fun q o hq => by cases hq⟩
  | st hp n b x =>
    simp only [At.tame] at ht; subst ht
    simp only [stepA] at h
    obtain ⟨v, hv, h⟩ := Option.bind_eq_some_iff.1 h
    obtain ⟨xs, hxs, h⟩ := Option.bind_eq_some_iff.1 h
    split at h
    · cases h
    · rename_i hl
      rcases placeK_nat h with ⟨p, o, h, hroot, hn⟩ | ⟨j, o, h, hn⟩
      · simp at h
      · obtain ⟨H1, hst, h⟩ := Option.bind_eq_some_iff.1 h
        cases h
        refine ⟨[], rfl, by simp, fun e' ha => ?_, fun hne => by simp [At.neutral] at hne, fun hq => by simp [At.quiet] at hq, by simp⟩
        simp only [stepA]
        rw [ev_agree ha.right, hv, Option.bind_some, hxs, Option.bind_some, if_neg hl]
        rw [placeK_agree (Kl := fun _ _ => none) (Ko := fun i o => (H.st lim i o xs).bind fun H' => some (e', H')) (Agree.left ha) (fun p o _ => by simp), hn, hst]
        rfl
  | pick and c keep d ks =>
    simp only [stepA] at h
    obtain ⟨b, hb, h⟩ := Option.bind_eq_some_iff.1 h
    obtain ⟨q, hq, h⟩ := Option.bind_eq_some_iff.1 h
    cases h
    have key : ∀ e' H', Agree (c :: keep.slots) e e' → stepA lim call (.pick and c keep d ks) e' H' = some (Env.sets ((d, .val (.c (.bool q))) :: ks.map fun p => (p, T.poison)) e', H') := by
      intro e' H' ha
      have h1 : Agree [c] e e' := Agree.left (S2 := keep.slots) ha
      have h2 : Agree keep.slots e e' := Agree.right (S := [c]) ha
      simp only [stepA]
      rw [evB_agree (x := .t c) h1, hb, Option.bind_some, evB_agree h2, hq, Option.bind_some, killS_sets]
      rfl
    refine ⟨(d, .val (.c (.bool q))) :: ks.map fun p => (p, T.poison), by rw [killS_sets]; rfl, ?_, fun e' ha => key e' H ha, fun _ e' H' ha => key e' H' ha, fun _ => rfl, fun y hy => ?_⟩
    · intro p hp
      simp only [List.map_cons, List.map_map, List.mem_cons, List.mem_map, Function.comp] at hp
      simp only [At.writes, List.mem_cons]
      rcases hp with rfl | ⟨q, hq, rfl⟩
      · exact .inl rfl
      · exact .inr hq
    · rw [List.mem_cons, List.mem_map] at hy
      rcases hy with rfl | ⟨q, hq, rfl⟩
      · exact ⟨fun cs hc => (by cases hc), fun q o hq => (by cases hq)⟩
      · exact ⟨fun cs hc => (by cases hc), fun q o hq => (by cases hq)⟩

theorem dst_writes {a : At} {p : Nat} (h : p ∈ a.dst.toList) : p ∈ a.writes := by
  cases a <;> simp [At.dst, At.writes] at h ⊢ <;> first | exact h | exact .inl h
theorem quiet_of_neutral {a : At} (h : a.neutral = true) : a.quiet = true := by
  cases a <;> simp [At.neutral, At.quiet] at h ⊢
  unfold ROp.quiet; split <;> first | rfl | exact h
theorem stepI_does {it : It} {e e2 : Env} {H H2 : Heap} (ht : it.a.tame = true) (h : stepI lim call it e H = some (e2, H2)) : ∃ f, e2 = Env.sets f e ∧ Does lim call it e H f H2 := by
  obtain ⟨i, g, a⟩ := it
  simp only at ht
  cases g with
  | none =>
    obtain ⟨f, h1, h2⟩ := stepA_does ht h
    exact ⟨f, h1, h2.slots, fun e' ha => h2.same e' ha, fun hn e' H' ha => h2.neutral hn e' H' ha, h2.quiet, h2.locs⟩
  | some y =>
    obtain ⟨c, want⟩ := y
    simp only [stepI] at h
    obtain ⟨b, hb, h⟩ := Option.bind_eq_some_iff.1 h
    have hg : ∀ e', Agree (It.reads ⟨i, some (c, want), a⟩) e e' → guardOf e' c = some b := fun e' ha => by
      rw [guardOf_get (ha c (by simp [It.reads])).1]; exact hb
    have hr : ∀ e', Agree (It.reads ⟨i, some (c, want), a⟩) e e' → Agree a.reads e e' := fun e' ha => Agree.right (S := [c]) ha
    split at h
    · rename_i hw
      obtain ⟨f, h1, h2⟩ := stepA_does ht h
      refine ⟨f, h1, h2.slots, fun e' ha => ?_, fun hn e' H' ha => ?_, h2.quiet, h2.locs⟩
      · simp only [stepI, hg e' ha, Option.bind_some, if_pos hw]; exact h2.same e' (hr e' ha)
      · simp only [stepI, hg e' ha, Option.bind_some, if_pos hw]; exact h2.neutral hn e' H' (hr e' ha)
    · rename_i hw
      cases h
      refine ⟨a.dst.toList.map fun p => (p, off), setO_sets _ _ _, fun p hp => ?_, fun e' ha => ?_, fun hn e' H' ha => ?_, fun _ => rfl, fun x hx => ?_⟩
      · simp only [List.map_map, List.mem_map, Function.comp] at hp; obtain ⟨q, hq, rfl⟩ := hp; exact dst_writes hq
      · simp only [stepI, hg e' ha, Option.bind_some, if_neg hw, setO_sets]
      · simp only [stepI, hg e' ha, Option.bind_some, if_neg hw, setO_sets]
      · obtain ⟨q, hq, rfl⟩ := List.mem_map.1 hx
        exact ⟨fun cs hc => (by cases hc), fun q o hq => (by cases hq)⟩

/-- y, behind x, may come before it -/
def swapOK (x y : It) : Bool :=
  x.a.tame && y.a.tame && x.a.writes.all (fun p => !y.reads.contains p && !y.a.writes.contains p) && y.a.writes.all (fun p => !x.reads.contains p) &&
  (x.a.neutral || y.a.neutral || (x.a.quiet && y.a.quiet))
theorem swap {x y : It} {e e1 e2 : Env} {H H1 H2 : Heap} {W : List Nat} (hs : swapOK x y = true) (hf : Free e W) (hx : ∀ p ∈ x.a.writes, p ∈ W) (hy : ∀ p ∈ y.a.writes, p ∈ W)
    (h1 : stepI lim call x e H = some (e1, H1)) (h2 : stepI lim call y e1 H1 = some (e2, H2)) : ∃ e3 H3, stepI lim call y e H = some (e3, H3) ∧ stepI lim call x e3 H3 = some (e2, H2) := by
  simp only [swapOK, Bool.and_eq_true, List.all_eq_true, Bool.not_eq_true', List.contains_eq_mem, decide_eq_false_iff_not, Bool.or_eq_true] at hs
  obtain ⟨⟨⟨⟨ht1, ht2⟩, hd1⟩, hd2⟩, hcl⟩ := hs
  obtain ⟨f, rfl, hfx⟩ := stepI_does ht1 h1
  obtain ⟨g, rfl, hfy⟩ := stepI_does ht2 h2
  have a1 : Agree y.reads e (Env.sets f e) := agree_sets hf (fun p hp => hx p (hfx.slots p hp)) (fun p hp hpf => (hd1 p (hfx.slots p hpf)).1 hp)
  have a2 : Agree x.reads e (Env.sets g e) := agree_sets hf (fun p hp => hy p (hfy.slots p hp)) (fun p hp hpf => hd2 p (hfy.slots p hpf) hp)
  have hc : Env.sets f (Env.sets g e) = Env.sets g (Env.sets f e) := (sets_comm fun p hp hpf => (hd1 p (hfx.slots p hpf)).2 (hfy.slots p hp)).symm
  rcases hcl with (hn | hn) | ⟨hq1, hq2⟩
  · have hH := hfx.quiet (quiet_of_neutral hn); subst hH
    exact ⟨Env.sets g e, H2, hfy.same e a1.symm, by rw [← hc]; exact hfx.neutral hn _ _ a2⟩
  · have hH := hfy.quiet (quiet_of_neutral hn); subst hH
    exact ⟨Env.sets g e, H, hfy.neutral hn _ _ a1.symm, by rw [← hc]; exact hfx.same _ a2⟩
  · have hH := hfx.quiet hq1; subst hH
    have hH2 := hfy.quiet hq2; subst hH2
    exact ⟨Env.sets g e, H2, hfy.same e a1.symm, by rw [← hc]; exact hfx.same _ a2⟩

/-- a part of several results, and a store to a local variable behind it -/
def swapSt (x y : It) : Bool := match x.g, x.a, y.g, y.a with
  | none, .op (some d) (.ext _ (.t s) _), none, .st false _ (.t b) (.t v) => d != b && d != v && s != d
  | _, _, _, _ => false
theorem swapS {x y : It} {e e1 e2 : Env} {H H1 H2 : Heap} {W : List Nat} (hs : swapSt x y = true) (hf : Free e W) (hx : ∀ p ∈ x.a.writes, p ∈ W)
    (h1 : stepI lim call x e H = some (e1, H1)) (h2 : stepI lim call y e1 H1 = some (e2, H2)) : ∃ e3 H3, stepI lim call y e H = some (e3, H3) ∧ stepI lim call x e3 H3 = some (e2, H2) := by
  obtain ⟨xi, xg, xa⟩ := x
  obtain ⟨yi, yg, ya⟩ := y
  unfold swapSt at hs
  simp only at hs
  split at hs
  · rename_i d kd s i n b v
    simp only [Bool.and_eq_true, bne_iff_ne, ne_eq] at hs
    obtain ⟨⟨hdb, hdv⟩, hsd⟩ := hs
    have hdW : d ∈ W := hx d (by simp [At.writes])
    simp only [stepI, stepA] at h1
    obtain ⟨t, H1', h1', hn⟩ := evalOp_nat h1
    cases h1'
    have hH1 := hn.neutral rfl
    -- what is taken apart is a value
    have hsv : ∃ u, e.get s = .val u := by
      simp only [evalOp] at h1
      obtain ⟨u, hu, _⟩ := Option.bind_eq_some_iff.1 h1
      simp only [ev] at hu
      split at hu
      · rename_i u' hu'; exact ⟨u', hu'⟩
      · cases hu
    obtain ⟨u, hsv⟩ := hsv
    have hag : ∀ (q : Nat) (z : T), e.get q ≠ .val u ∨ q ≠ s → Agree [s] e (e.set q z) := fun q z hq p hp => by
      simp only [List.mem_singleton] at hp; subst hp
      have hne : p ≠ q := fun e' => by subst e'; exact hq.elim (fun h => h hsv) (fun h => h rfl)
      exact ⟨get_set_ne hne, fun q' o hl => by rw [hsv] at hl; cases hl⟩
    have again : ∀ (e' : Env) (H' : Heap), Agree [s] e e' → stepI lim call ⟨xi, none, .op (some d) (.ext kd (.t s) i)⟩ e' H' = some (e'.set d t, H') := fun e' H' ha => by
      simp only [stepI, stepA]
      rw [evalOp_agree (o := .ext kd (.t s) i) ha, hH1]; rfl
    simp only [stepI, stepA, Env.setO] at h2
    have hgb : Env.get (e.set d t) b = e.get b := get_set_ne (Ne.symm hdb)
    have hgv : Env.get (e.set d t) v = e.get v := get_set_ne (Ne.symm hdv)
    have hev : ev (e.set d t) (.t v) = ev e (.t v) := by simp only [ev, hgv]
    rw [hev] at h2
    obtain ⟨vv, hvv, h2⟩ := Option.bind_eq_some_iff.1 h2
    obtain ⟨xs, hxs, h2⟩ := Option.bind_eq_some_iff.1 h2
    have hquiet : H1 = H := hn.quiet rfl
    subst hquiet
    split at h2
    · cases h2
    · rename_i hlen
      -- the store, into the local variable q
      have store : ∀ q o, (e.get q ≠ .val u ∨ q ≠ s) → q ≠ d → ((locCells (e.set d t) q).bind fun cs => if o + n ≤ cs.length then some ((e.set d t).set q (.loc (splice cs o xs)), H1) else none) = some (e2, H2) →
          ((locCells e q).bind fun cs => if o + n ≤ cs.length then some (e.set q (.loc (splice cs o xs)), H1) else none) = some ((e.set q (.loc (splice ((locCells e q).getD []) o xs))), H1) ∧
            stepI lim call ⟨xi, none, .op (some d) (.ext kd (.t s) i)⟩ (e.set q (.loc (splice ((locCells e q).getD []) o xs))) H1 = some (e2, H2) := by
        intro q o hq hqd h2
        have hl : locCells (e.set d t) q = locCells e q := by simp only [locCells, get_set_ne hqd]
        rw [hl] at h2
        obtain ⟨cs, hcs, h2⟩ := Option.bind_eq_some_iff.1 h2
        split at h2
        · rename_i hle
          cases h2
          refine ⟨by simp [hcs, hle], ?_⟩
          rw [again _ _ (hag q _ hq), hcs]
          simp only [Option.getD_some]
          rw [List.set_comm _ _ hqd]
        · cases h2
      unfold placeK at h2
      simp only [hgb] at h2
      cases hb : e.get b with
      | poison => rw [hb] at h2; cases h2
      | val w =>
        rw [hb] at h2
        obtain ⟨a, ha, h2⟩ := Option.bind_eq_some_iff.1 h2
        obtain ⟨H3, hst, h2⟩ := Option.bind_eq_some_iff.1 h2
        cases h2
        refine ⟨e, H2, ?_, again e H2 (fun p _ => ⟨rfl, fun _ _ _ => rfl⟩)⟩
        simp only [stepI, stepA]
        rw [hvv, Option.bind_some, hxs, Option.bind_some, if_neg hlen]
        unfold placeK
        simp only [hb, ha, Option.bind_some, hst]
      | loc cs =>
        rw [hb] at h2
        simp only [Bool.false_eq_true, if_false] at h2
        obtain ⟨k1, k2⟩ := store b 0 (.inl (by rw [hb]; simp)) (Ne.symm hdb) h2
        refine ⟨_, _, ?_, k2⟩
        simp only [stepI, stepA]
        rw [hvv, Option.bind_some, hxs, Option.bind_some, if_neg hlen]
        unfold placeK
        simp only [hb, Bool.false_eq_true, if_false]
        exact k1
      | laddr q o =>
        rw [hb] at h2
        simp only [Bool.false_eq_true, if_false] at h2
        have hqd : q ≠ d := fun e' => (hf d hdW).2 b o (by rw [hb, e'])
        have hqs : e.get q ≠ .val u ∨ q ≠ s := by
          by_cases e' : q = s
          · left
            subst e'
            have hl : locCells (e.set d t) q = none := by simp only [locCells, get_set_ne hqd, hsv]
            rw [hl] at h2; cases h2
          · exact .inr e'
        obtain ⟨k1, k2⟩ := store q o hqs hqd h2
        refine ⟨_, _, ?_, k2⟩
        simp only [stepI, stepA]
        rw [hvv, Option.bind_some, hxs, Option.bind_some, if_neg hlen]
        unfold placeK
        simp only [hb, Bool.false_eq_true, if_false]
        exact k1
  · cases hs

/-! ### to the front -/
/-- slots that become local variables -/
def At.lets : At → List Nat
  | .lbox _ p _ => [p]
  | .lnew p _ => [p]
  | _ => []
def W (its : List It) : List Nat := its.flatMap fun it => it.a.writes
theorem free_step {x : It} {e e1 : Env} {H H1 : Heap} {S S2 : List Nat} (h : stepI lim call x e H = some (e1, H1)) (hf : Free e S) (hl : ∀ p ∈ x.a.lets, p ∉ S2) (hs : ∀ p ∈ S2, p ∈ S) : Free e1 S2 := by
  by_cases ht : x.a.tame = true
  · obtain ⟨f, rfl, hd⟩ := stepI_does ht h
    refine Free.sets (hf.sub hs) fun y hy => ⟨fun cs hc => ?_, fun q o hq hS => hf.rooted ((hd.locs y hy).2 q o hq) (hs q hS)⟩
    obtain ⟨n, z, zs, h1⟩ := (hd.locs y hy).1 cs hc
    refine hl y.1 ?_
    rcases h1 with h1 | h1 <;> rw [h1] <;> simp [At.lets]
  · obtain ⟨i, g, a⟩ := x
    cases a with
    | st hp n b x =>
      have stp : ∀ {e1 H1}, stepA lim call (.st hp n b x) e H = some (e1, H1) → Free e1 S2 := by
        intro e1 H1 h
        simp only [stepA] at h
        obtain ⟨v, hv, h⟩ := Option.bind_eq_some_iff.1 h
        obtain ⟨xs, hxs, h⟩ := Option.bind_eq_some_iff.1 h
        split at h
        · cases h
        · rcases placeK_nat h with ⟨p, o, h, hroot, hn⟩ | ⟨j, o, h, hn⟩
          · split at h
            · cases h
            · obtain ⟨cs, hcs, h⟩ := Option.bind_eq_some_iff.1 h
              split at h
              · cases h
                exact (hf.sub hs).set (fun _ _ hp => hf.rooted hroot (hs p hp)) (fun q o ht => by cases ht)
              · cases h
          · obtain ⟨H1, hst, h⟩ := Option.bind_eq_some_iff.1 h
            cases h
            exact hf.sub hs
      cases g with
      | none => exact stp h
      | some y =>
        obtain ⟨c, want⟩ := y
        simp only [stepI] at h
        obtain ⟨b, hb, h⟩ := Option.bind_eq_some_iff.1 h
        split at h
        · exact stp h
        · cases h; exact hf.sub hs
    | _ => simp [At.tame] at ht

def apartL (x y : It) : Bool := x.a.lets.all (fun p => !y.a.writes.contains p) && y.a.lets.all (fun p => !x.a.writes.contains p)
theorem pull {y : It} {ys : List It} {eF : Env} {HF : Heap} : ∀ {xs : List It} {e : Env} {H : Heap}, (∀ x ∈ xs, swapOK x y = true ∨ swapSt x y = true) → (∀ x ∈ xs, apartL x y = true) → xs.Pairwise (fun a b => apartL a b = true) → (∀ x ∈ xs, ∀ z ∈ ys, apartL x z = true) → Free e (W (xs ++ y :: ys)) →
    flat lim call (xs ++ y :: ys) e H = some (eF, HF) → ∃ e1 H1, stepI lim call y e H = some (e1, H1) ∧ flat lim call (xs ++ ys) e1 H1 = some (eF, HF)
  | [], e, H, _, _, _, _, _, h => by
    simp only [List.nil_append, flat] at h
    obtain ⟨⟨e1, H1⟩, h1, h2⟩ := Option.bind_eq_some_iff.1 h
    exact ⟨e1, H1, h1, h2⟩
  | x :: xs, e, H, hs, ha, hp, hz, hf, h => by
    simp only [List.cons_append, flat] at h
    obtain ⟨⟨e1, H1⟩, h1, h2⟩ := Option.bind_eq_some_iff.1 h
    rw [List.pairwise_cons] at hp
    have hlets : ∀ p ∈ x.a.lets, p ∉ W (xs ++ y :: ys) := by
      intro p hpx hpw
      simp only [W, List.mem_flatMap] at hpw
      obtain ⟨z, hz1, hz2⟩ := hpw
      have hap : apartL x z = true := by
        rw [List.mem_append, List.mem_cons] at hz1
        rcases hz1 with h | rfl | h
        · exact hp.1 z h
        · exact ha x (by simp)
        · exact hz x (by simp) z h
      simp only [apartL, Bool.and_eq_true, List.all_eq_true, Bool.not_eq_true', List.contains_eq_mem, decide_eq_false_iff_not] at hap
      exact hap.1 p hpx hz2
    have hf1 : Free e1 (W (xs ++ y :: ys)) := free_step h1 hf hlets fun p hp => by simp [W] at hp ⊢; exact .inr hp
    obtain ⟨e2, H2, h3, h4⟩ := pull (fun x hx => hs x (by simp [hx])) (fun x hx => ha x (by simp [hx])) hp.2 (fun x hx => hz x (by simp [hx])) hf1 h2
    obtain ⟨e3, H3, h5, h6⟩ : ∃ e3 H3, stepI lim call y e H = some (e3, H3) ∧ stepI lim call x e3 H3 = some (e2, H2) := by
      rcases hs x (by simp) with hsx | hsx
      · exact swap (W := W (x :: xs ++ y :: ys)) hsx hf (fun p hp => by simp [W, hp]) (fun p hp => by simp [W]; exact .inr (.inr (.inl hp))) h1 h3
      · exact swapS (W := W (x :: xs ++ y :: ys)) hsx hf (fun p hp => by simp [W, hp]) h1 h3
    exact ⟨e3, H3, h5, by rw [List.cons_append, flat_cons h6]; exact h4⟩
end
end Go.Proofs.Ytnnjklkfcleleaa.Vm
