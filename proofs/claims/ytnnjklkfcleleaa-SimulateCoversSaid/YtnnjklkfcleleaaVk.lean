/-
  A REGION THAT DRAWS ITS ORDER: its operations in a row, each with its guard.
-/
import Derived.Test.YtnnjklkfcleleaaVj
import Derived.Test.YtnnjklkfcleleaaVh
namespace Go.Proofs.Ytnnjklkfcleleaa.Vm
open Go
set_option linter.unusedVariables false
set_option linter.unusedSimpArgs false

inductive At where
  | op (d : Option Nat) (o : ROp)
  | lbox (n p : Nat) (x : X)
  | lnew (p : Nat) (z : List C)
  | st (hp : Bool) (n : Nat) (a x : X)
  | pick (and : Bool) (c : Nat) (keep : X) (d : Nat) (ks : List Nat)
  deriving Inhabited
/-- number, guard (slot and what it must hold), what to do -/
structure It where
  i : Nat
  g : Gd
  a : At
  deriving Inhabited

def off : T := .val (.tuple [])
def Env.setO (e : Env) : Option Nat → T → Env
  | some d, t => e.set d t
  | none, _ => e
def Env.killS : List Nat → Env → Env
  | [], e => e
  | p :: ps, e => Env.killS ps (e.set p .poison)

abbrev St := Option (Env × Heap)
section
variable (lim : Nat) (call : CallT)
def stepA : At → Env → Heap → St
  | .op d o, e, H => evalOp lim call e H o fun t H' => some (e.setO d t, H')
  | .lbox n p x, e, H => (ev e x).bind fun v => v.cells.bind fun xs => if xs.length = n then some (e.set p (.loc xs), H) else none
  | .lnew p z, e, H => some (e.set p (.loc z), H)
  | .st hp n a x, e, H => (ev e x).bind fun v => v.cells.bind fun xs => if xs.length ≠ n then none else placeK e a
    (fun p o => if hp = true then none else (locCells e p).bind fun cs => if o + n ≤ cs.length then some (e.set p (.loc (splice cs o xs)), H) else none)
    (fun i o => (H.st lim i o xs).bind fun H' => some (e, H'))
  | .pick and c keep d ks, e, H => (evB e (.t c)).bind fun b => (if b = and then evB e keep else some b).bind fun q => some (Env.killS ks (e.set d (.val (.c (.bool q)))), H)
def At.dst : At → Option Nat
  | .op d _ => d
  | .lbox _ p _ => some p
  | .lnew p _ => some p
  | .pick _ _ _ d _ => some d
  | _ => none
/-- what a guard's slot says: nothing known, skipped itself, a Bool -/
def guardOf (e : Env) (c : Nat) : Option (Option Bool) :=
  match e.get c with
  | .val (.c (.bool b)) => some (some b)
  | .val (.tuple []) => some none
  | _ => none
def stepI (it : It) (e : Env) (H : Heap) : St :=
  match it.g with
  | none => stepA lim call it.a e H
  | some (c, want) => (guardOf e c).bind fun b => if b = some want then stepA lim call it.a e H else some (e.setO it.a.dst off, H)
def flat : List It → Env → Heap → St
  | [], e, H => some (e, H)
  | it :: its, e, H => (stepI lim call it e H).bind fun q => flat its q.1 q.2
end

/-- the guards of a skipped group are slots that were skipped -/
def chkSkipF : List Nat → Ops → Bool
  | _, .nil => true
  | D, .op d _ r => chkSkipF (d.toList ++ D) r
  | D, .lbox _ p _ r => chkSkipF (p :: D) r
  | D, .lnew p _ r => chkSkipF (p :: D) r
  | D, .st _ _ _ _ r => chkSkipF D r
  | D, .logic _ c inner _ d r => D.contains c && chkSkipF D inner && chkSkipF (d :: D.filter (fun p => !(dsts inner).contains p)) r
/-- a nested list of operations in a row; the numbers are taken from a list -/
def row : Gd → Ops → List Nat → Option (List It × List Nat)
  | g, .nil, is => some ([], is)
  | g, .op d o r, i :: is => (row g r is).map fun q => (⟨i, g, .op d o⟩ :: q.1, q.2)
  | g, .lbox n p x r, i :: is => (row g r is).map fun q => (⟨i, g, .lbox n p x⟩ :: q.1, q.2)
  | g, .lnew p z r, i :: is => (row g r is).map fun q => (⟨i, g, .lnew p z⟩ :: q.1, q.2)
  | g, .st hp n a x r, i :: is => (row g r is).map fun q => (⟨i, g, .st hp n a x⟩ :: q.1, q.2)
  | g, .logic and c inner keep d r, is =>
    if plain inner && !(dsts inner).contains c && !(dsts inner).contains d && chkSkipF [] inner then
      match row (some (c, and)) inner is with
      | some (l, i :: is) => (row g r is).map fun q => (l ++ ⟨i, g, .pick and c keep d (dsts inner)⟩ :: q.1, q.2)
      | _ => none
    else none
  | _, _, [] => none

theorem flat_append {lim : Nat} {call : CallT} : ∀ {xs ys : List It} {e : Env} {H : Heap}, flat lim call (xs ++ ys) e H = (flat lim call xs e H).bind fun q => flat lim call ys q.1 q.2
  | [], ys, e, H => rfl
  | x :: xs, ys, e, H => by
    simp only [List.cons_append, flat, Option.bind_assoc]
    congr 1; funext q; exact flat_append

/-- slots that hold no local variable, and into which no address leads -/
def Free (e : Env) (S : List Nat) : Prop := ∀ p ∈ S, (∀ cs, e.get p ≠ .loc cs) ∧ ∀ s o, e.get s ≠ .laddr p o
theorem Free.sub {e : Env} {S S2 : List Nat} (h : Free e S) (hs : ∀ p ∈ S2, p ∈ S) : Free e S2 := fun p hp => h p (hs p hp)
theorem get_set {e : Env} {d p : Nat} {t : T} : Env.get (e.set d t) p = t ∨ Env.get (e.set d t) p = e.get p := by
  unfold Env.get
  simp only [List.getD_eq_getElem?_getD, List.getElem?_set]
  split
  · split
    · exact .inl rfl
    · rename_i h1 h2; subst h1; right; rw [List.getElem?_eq_none (by omega)]
  · exact .inr rfl
theorem get_set_ne {e : Env} {d p : Nat} {t : T} (h : p ≠ d) : Env.get (e.set d t) p = e.get p := by
  unfold Env.get
  simp only [List.getD_eq_getElem?_getD, List.getElem?_set_ne (Ne.symm h)]
/-- a slot gets something that is no address into S, and no local variable -/
theorem Free.set {e : Env} {S : List Nat} {d : Nat} {t : T} (h : Free e S) (hl : ∀ cs, t = .loc cs → d ∉ S) (ha : ∀ q o, t = .laddr q o → q ∉ S) : Free (e.set d t) S := by
  intro p hp
  refine ⟨fun cs hc => ?_, fun s o hs => ?_⟩
  · by_cases hpd : p = d
    · subst hpd
      rcases get_set (e := e) (d := p) (p := p) (t := t) with h1 | h1
      · rw [h1] at hc; exact hl _ hc hp
      · rw [h1] at hc; exact (h p hp).1 _ hc
    · rw [get_set_ne hpd] at hc; exact (h p hp).1 _ hc
  · rcases get_set (e := e) (d := d) (p := s) (t := t) with h1 | h1
    · rw [h1] at hs; exact ha _ _ hs hp
    · rw [h1] at hs; exact (h p hp).2 _ _ hs
theorem Free.put {e : Env} {S : List Nat} {d : Nat} {t : T} (h : Free e S) (hd : d ∈ S) (ht : ∀ q o, t = .laddr q o → q ∉ S) : e.put d t = e.set d t := by
  unfold Env.put
  split
  · rename_i cs hc; exact absurd hc ((h d hd).1 cs)
  · rcases purge_cases d t with h1 | ⟨_, o, h1⟩
    · rw [h1]
    · exact absurd hd (ht d o h1)
theorem Free.purge {e : Env} {S : List Nat} {d : Nat} (h : Free e S) (hd : d ∈ S) : e.map (T.purge d) = e := by
  refine List.ext_getElem? fun s => ?_
  rw [List.getElem?_map]
  cases hs : e[s]? with
  | none => rfl
  | some t =>
    simp only [Option.map_some, Option.some.injEq]
    rcases purge_cases d t with h1 | ⟨_, o, h1⟩
    · exact h1
    · exfalso
      refine (h d hd).2 s o ?_
      unfold Env.get; rw [List.getD_eq_getElem?_getD, hs, h1]; rfl
theorem Free.kill : ∀ {S : List Nat} {e : Env}, Free e S → Env.kill S e = Env.killS S e
  | [], _, _ => rfl
  | p :: ps, e, h => by
    simp only [Env.kill, Env.killS]
    rw [h.put (by simp) (fun q o hc => by cases hc)]
    refine Free.kill (Free.set (h.sub fun q hq => by simp [hq]) (fun cs hc => by cases hc) (fun q o hc => by cases hc))
theorem Free.rooted {e : Env} {S : List Nat} {q : Nat} (h : Free e S) (hr : Rooted e q) : q ∉ S := fun hq => by
  rcases hr with ⟨cs, hc⟩ | ⟨s, o, hs⟩
  · exact (h q hq).1 _ hc
  · exact (h q hq).2 _ _ hs
theorem Free.killS : ∀ {ds : List Nat} {e : Env} {S : List Nat}, Free e S → Free (Env.killS ds e) S
  | [], _, _, h => h
  | d :: ds, _, _, h => Free.killS (ds := ds) (h.set (fun cs hc => by cases hc) (fun q o hc => by cases hc))

/-- the same but for some slots -/
def Same (S : List Nat) (e e2 : Env) : Prop := e2.length = e.length ∧ ∀ p, p ∉ S → e2[p]? = e[p]?
theorem Same.refl (S : List Nat) (e : Env) : Same S e e := ⟨rfl, fun _ _ => rfl⟩
theorem Same.trans {S S2 : List Nat} {a b c : Env} (h : Same S a b) (k : Same S2 b c) : Same (S ++ S2) a c :=
  ⟨k.1.trans h.1, fun p hp => by rw [List.mem_append, not_or] at hp; rw [k.2 p hp.2, h.2 p hp.1]⟩
theorem Same.set (e : Env) (d : Nat) (t : T) : Same [d] e (e.set d t) := ⟨by simp, fun p hp => by simp at hp; rw [List.getElem?_set_ne (Ne.symm hp)]⟩
theorem Same.setO (e : Env) (d : Option Nat) (t : T) : Same d.toList e (e.setO d t) := by
  cases d with
  | none => exact .refl _ _
  | some d => exact .set e d t
theorem killS_get : ∀ {S : List Nat} {e : Env} {p : Nat}, (Env.killS S e)[p]? = if p ∈ S ∧ p < e.length then some .poison else e[p]?
  | [], e, p => by simp [Env.killS]
  | q :: S, e, p => by
    simp only [Env.killS]
    rw [killS_get, List.getElem?_set]
    simp only [List.length_set, List.mem_cons]
    by_cases h1 : p ∈ S ∧ p < e.length
    · simp [h1]
    · by_cases h2 : q = p
      · subst h2
        by_cases h3 : q < e.length
        · simp [h3]
        · rw [if_neg h1]; simp [h3]
      · simp only [if_neg h1, if_neg h2]
        rw [if_neg]; intro h; exact h1 ⟨h.1.resolve_left (fun e => h2 e.symm), h.2⟩
theorem Same.killS {S : List Nat} {e e2 : Env} (h : Same S e e2) : Env.killS S e2 = Env.killS S e := by
  refine List.ext_getElem? fun p => ?_
  rw [killS_get, killS_get, h.1]
  by_cases hp : p ∈ S
  · by_cases hl : p < e.length
    · simp [hp, hl]
    · have h1 : e2[p]? = none := List.getElem?_eq_none (by rw [h.1]; omega)
      have h2 : e[p]? = none := List.getElem?_eq_none (by omega)
      simp [hl, h1, h2]
  · simp [hp, h.2 p hp]
theorem killS_Same : ∀ {S : List Nat} {e : Env}, Same S e (Env.killS S e) := by
  intro S e
  refine ⟨?_, fun p hp => by rw [killS_get, if_neg (fun h => hp h.1)]⟩
  induction S generalizing e with
  | nil => rfl
  | cons p S ih => simp only [Env.killS]; rw [ih]; simp
theorem killS_set {S : List Nat} {e : Env} {d : Nat} {t : T} (hd : d ∉ S) : Env.killS S (e.set d t) = (Env.killS S e).set d t := by
  refine List.ext_getElem? fun p => ?_
  rw [killS_get, List.getElem?_set, List.getElem?_set, killS_get, (killS_Same (S := S) (e := e)).1]
  simp only [List.length_set]
  by_cases h : d = p
  · subst h; simp [hd]
  · simp [h]
theorem Same.get {S : List Nat} {e e2 : Env} (h : Same S e e2) {p : Nat} (hp : p ∉ S) : e2.get p = e.get p := by
  unfold Env.get; rw [List.getD_eq_getElem?_getD, List.getD_eq_getElem?_getD, h.2 p hp]
theorem Free.setO {e : Env} {S : List Nat} {d : Option Nat} {t : T} (h : Free e S) (hl : ∀ cs, t ≠ .loc cs) (ha : ∀ q o, t = .laddr q o → q ∉ S) : Free (e.setO d t) S := by
  cases d with
  | none => exact h
  | some d => exact h.set (fun cs hc => absurd hc (hl cs)) ha
theorem Free.putO {e : Env} {S : List Nat} {d : Option Nat} {t : T} (h : Free e S) (hd : ∀ p ∈ d.toList, p ∈ S) (ht : ∀ q o, t = .laddr q o → q ∉ S) : e.putO d t = e.setO d t := by
  cases d with
  | none => rfl
  | some d => exact h.put (hd d (by simp)) ht

/-! ### nested and in a row -/
section
variable {lim : Nat} {call : CallT}
theorem flat_cons {it : It} {its : List It} {e e1 : Env} {H H1 : Heap} (h : stepI lim call it e H = some (e1, H1)) : flat lim call (it :: its) e H = flat lim call its e1 H1 := by
  simp only [flat, h, Option.bind_some]
theorem stepI_off {i c : Nat} {want : Bool} {a : At} {e : Env} {H : Heap} {x : Option Bool} (h : guardOf e c = some x) (hx : x ≠ some want) : stepI lim call ⟨i, some (c, want), a⟩ e H = some (e.setO a.dst off, H) := by
  simp only [stepI, h, Option.bind_some, if_neg hx]
theorem guardOf_get {e e2 : Env} {c : Nat} (h : e2.get c = e.get c) : guardOf e2 c = guardOf e c := by unfold guardOf; rw [h]
theorem get_setO_off {e : Env} {d : Option Nat} {p : Nat} (hp : e.get p = off) : Env.get (e.setO d off) p = off := by
  cases d with
  | none => exact hp
  | some d =>
    rcases get_set (e := e) (d := d) (p := p) (t := off) with h | h
    · exact h
    · exact h.trans hp
theorem get_set_self {e : Env} {d : Nat} {t : T} (h : d < e.length) : Env.get (e.set d t) d = t := by
  unfold Env.get; rw [List.getD_eq_getElem?_getD, List.getElem?_set_self h]; rfl
theorem setO_length {e : Env} {d : Option Nat} {t : T} : (e.setO d t).length = e.length := by cases d <;> simp [Env.setO]

theorem row_skip : ∀ (o : Ops) (c : Nat) (want : Bool) (D is : List Nat) (its : List It) (is2 : List Nat) (e : Env) (H : Heap) (x : Option Bool),
    row (some (c, want)) o is = some (its, is2) → guardOf e c = some x → x ≠ some want → c ∉ dsts o → chkSkipF D o = true → (∀ p ∈ D, e.get p = off) → plain o = true → (∀ p ∈ dsts o, p < e.length) →
    ∃ e2, flat lim call its e H = some (e2, H) ∧ Same (dsts o) e e2 := by
  intro o
  induction o with
  | nil =>
    intro c want D is its is2 e H x hr hg hx hc hs hD hp hl
    simp only [row, Option.some.injEq, Prod.mk.injEq] at hr
    rw [← hr.1]
    exact ⟨e, rfl, .refl _ _⟩
  | op d rop r ih =>
    intro c want D is its is2 e H x hr hg hx hc hs hD hp hl
    cases is with
    | nil => simp [row] at hr
    | cons i is =>
      simp only [row, Option.map_eq_some_iff] at hr
      obtain ⟨⟨l, is3⟩, hr, he⟩ := hr
      cases he
      simp only [dsts, List.mem_append, not_or] at hc hl
      have h1 : Same d.toList e (e.setO d off) := .setO e d off
      obtain ⟨e2, h2, h3⟩ := ih c want _ is l is3 (e.setO d off) H x hr (by rw [guardOf_get (h1.get hc.1)]; exact hg) hx hc.2 hs (fun p hp => by
        rw [List.mem_append] at hp
        rcases hp with hp | hp
        · cases d with
          | none => simp at hp
          | some d => simp at hp; subst hp; exact get_set_self (hl _ (by simp))
        · exact get_setO_off (hD p hp)) hp (fun p hp => by rw [setO_length]; exact hl p (.inr hp))
      refine ⟨e2, ?_, by simpa [dsts] using h1.trans h3⟩
      rw [flat_cons (stepI_off hg hx)]; exact h2
  | lbox n p x r ih => intro c want D is its is2 e H x hr hg hx hc hs hD hp; simp [plain] at hp
  | lnew p z r ih => intro c want D is its is2 e H x hr hg hx hc hs hD hp; simp [plain] at hp
  | st hp n b x r ih => intro c want D is its is2 e H x hr hg hx hc hs hD hp; simp [plain] at hp
  | logic and c2 inner keep d r ih1 ih2 =>
    intro c want D is its is2 e H x hr hg hx hc hs hD hp hl
    simp only [row] at hr
    split at hr
    · rename_i hh
      simp only [Bool.and_eq_true, Bool.not_eq_true', List.contains_eq_mem, decide_eq_false_iff_not] at hh
      split at hr
      · rename_i l i is3 hr1
        simp only [Option.map_eq_some_iff] at hr
        obtain ⟨⟨l2, is4⟩, hr2, he⟩ := hr
        cases he
        simp only [chkSkipF, Bool.and_eq_true, List.contains_eq_mem, decide_eq_true_eq] at hs
        simp only [plain, Bool.and_eq_true] at hp
        simp only [dsts, List.mem_append, List.mem_cons, not_or] at hc hl
        have hoff : guardOf e c2 = some none := by unfold guardOf; rw [hD c2 hs.1.1]; rfl
        obtain ⟨e1, h1, h2⟩ := ih1 c2 and D is l (i :: is3) e H none hr1 hoff (by simp) hh.1.1.2 hs.1.2 hD hp.1 (fun p hp => hl p (.inl hp))
        have hg1 : guardOf e1 c = some x := by rw [guardOf_get (h2.get hc.1)]; exact hg
        have h3 : Same (dsts inner ++ [d]) e (e1.set d off) := h2.trans (.set e1 d off)
        have hd : d ∉ dsts inner := hh.1.2
        have hdn : Env.get (e1.set d off) d = off := get_set_self (by rw [h2.1]; exact hl d (.inr (.inl rfl)))
        obtain ⟨e2, h5, h6⟩ := ih2 c want _ is3 l2 _ (e1.set d off) H x hr2 (by
            rw [guardOf_get (h3.get (by simp only [List.mem_append, List.mem_singleton, not_or]; exact ⟨hc.1, hc.2.1⟩))]; exact hg) hx hc.2.2 hs.2 (fun p hp => by
            simp only [List.mem_cons, List.mem_filter, Bool.not_eq_true', List.contains_eq_mem, decide_eq_false_iff_not] at hp
            rcases hp with rfl | ⟨hp, hpn⟩
            · exact hdn
            · by_cases hpd : p = d
              · subst hpd; exact hdn
              · rw [h3.get (by simp only [List.mem_append, List.mem_singleton, not_or]; exact ⟨hpn, hpd⟩)]; exact hD p hp) hp.2
            (fun p hp => by rw [h3.1]; exact hl p (.inr (.inr hp)))
        refine ⟨e2, ?_, ?_⟩
        · rw [flat_append, h1, Option.bind_some]
          rw [flat_cons (stepI_off hg1 hx)]
          exact h5
        · have := h3.trans h6
          refine ⟨this.1, fun p hp => this.2 p ?_⟩
          simp only [dsts, List.mem_append, List.mem_cons, List.not_mem_nil, or_false] at hp ⊢
          intro h
          exact hp (by rcases h with (h | h) | h <;> simp [h])
      · cases hr
    · cases hr

def GuardOn (g : Gd) (e : Env) (ds : List Nat) : Prop :=
  match g with
  | none => True
  | some (c, want) => guardOf e c = some (some want) ∧ c ∉ ds
theorem stepI_on {i : Nat} {g : Gd} {ds : List Nat} {a : At} {e : Env} {H : Heap} (h : GuardOn g e ds) : stepI lim call ⟨i, g, a⟩ e H = stepA lim call a e H := by
  cases g with
  | none => rfl
  | some x =>
    obtain ⟨c, want⟩ := x
    simp only [stepI, h.1, Option.bind_some, if_true]
theorem GuardOn.next {g : Gd} {e e2 : Env} {S xs ys : List Nat} (h : GuardOn g e (xs ++ ys)) (hs : Same S e e2) (hS : ∀ p ∈ S, p ∈ xs) : GuardOn g e2 ys := by
  cases g with
  | none => trivial
  | some x =>
    obtain ⟨c, want⟩ := x
    obtain ⟨h1, h2⟩ := h
    rw [List.mem_append, not_or] at h2
    exact ⟨by rw [guardOf_get (hs.get fun hc => h2.1 (hS c hc))]; exact h1, h2.2⟩
theorem nodup_app {xs ys : List Nat} (h : (xs ++ ys).Nodup) : ys.Nodup ∧ ∀ p ∈ ys, p ∉ xs := by
  rw [List.nodup_append] at h
  exact ⟨h.2.1, fun p hp hx => h.2.2 p hx p hp rfl⟩

theorem row_run : ∀ (o : Ops) {R : Type} (K : Env → Heap → Option R) (r : R) (g : Gd) (is is2 : List Nat) (its : List It) (e : Env) (H : Heap),
    row g o is = some (its, is2) → GuardOn g e (dsts o) → (dsts o).Nodup → Free e (dsts o) → (∀ p ∈ dsts o, p < e.length) → runOps lim call o e H K = some r →
    ∃ e2 H2, K e2 H2 = some r ∧ flat lim call its e H = some (e2, H2) ∧ (plain o = true → Same (dsts o) e e2) := by
  intro o
  induction o with
  | nil =>
    intro R K r g is is2 its e H hr hg hnd hf hl h
    simp only [row, Option.some.injEq, Prod.mk.injEq] at hr
    rw [← hr.1]
    exact ⟨e, H, h, rfl, fun _ => .refl _ _⟩
  | op d rop rs ih =>
    intro R K r g is is2 its e H hr hg hnd hf hl h
    cases is with
    | nil => simp [row] at hr
    | cons i is =>
      simp only [row, Option.map_eq_some_iff] at hr
      obtain ⟨⟨l, is3⟩, hr, he⟩ := hr
      cases he
      simp only [dsts] at hg hnd hf hl
      simp only [runOps] at h
      obtain ⟨t, H1, h, hn⟩ := evalOp_nat h
      have hroot : ∀ q o, t = .laddr q o → q ∉ d.toList ++ dsts rs := fun q o ht => hf.rooted (hn.root q o ht)
      rw [hf.putO (fun p hp => by simp [hp]) hroot] at h
      obtain ⟨hnd2, hdis⟩ := nodup_app hnd
      have h1 : Same d.toList e (e.setO d t) := .setO e d t
      obtain ⟨e2, H2, h2, h3, h4⟩ := ih K r g is is3 l _ H1 hr (hg.next h1 fun p hp => hp) hnd2 ((hf.setO hn.noloc hroot).sub fun p hp => by simp [hp]) (fun p hp => by rw [setO_length]; exact hl p (by simp [hp])) h
      refine ⟨e2, H2, h2, ?_, fun hp => by simpa [dsts] using h1.trans (h4 hp)⟩
      rw [flat_cons (e1 := e.setO d t) (H1 := H1)]
      · exact h3
      · rw [stepI_on hg]; simp only [stepA]; rw [hn.all]
  | lbox n p x rs ih =>
    intro R K r g is is2 its e H hr hg hnd hf hl h
    cases is with
    | nil => simp [row] at hr
    | cons i is =>
      simp only [row, Option.map_eq_some_iff] at hr
      obtain ⟨⟨l, is3⟩, hr, he⟩ := hr
      cases he
      simp only [dsts] at hg hnd hf hl
      simp only [runOps] at h
      obtain ⟨v, hv, h⟩ := Option.bind_eq_some_iff.1 h
      obtain ⟨xs, hxs, h⟩ := Option.bind_eq_some_iff.1 h
      split at h
      · rename_i hlen
        rw [hf.purge (by simp)] at h
        obtain ⟨hnd2, hdis⟩ := nodup_app (xs := [p]) hnd
        have h1 : Same [p] e (e.set p (.loc xs)) := .set e p _
        obtain ⟨e2, H2, h2, h3, h4⟩ := ih K r g is is3 l _ H hr (hg.next (xs := [p]) h1 fun p hp => hp) hnd2 ((hf.sub fun q hq => by simp [hq]).set (fun cs _ hp => hdis p hp (by simp)) (fun q o ht => by cases ht)) (fun q hq => by simp; exact hl q (by simp [hq])) h
        refine ⟨e2, H2, h2, ?_, fun hp => by simp [plain] at hp⟩
        rw [flat_cons (e1 := e.set p (.loc xs)) (H1 := H)]
        · exact h3
        · rw [stepI_on hg]; simp only [stepA, hv, hxs, Option.bind_some, if_pos hlen]
      · cases h
  | lnew p z rs ih =>
    intro R K r g is is2 its e H hr hg hnd hf hl h
    cases is with
    | nil => simp [row] at hr
    | cons i is =>
      simp only [row, Option.map_eq_some_iff] at hr
      obtain ⟨⟨l, is3⟩, hr, he⟩ := hr
      cases he
      simp only [dsts] at hg hnd hf hl
      simp only [runOps] at h
      rw [hf.purge (by simp)] at h
      obtain ⟨hnd2, hdis⟩ := nodup_app (xs := [p]) hnd
      have h1 : Same [p] e (e.set p (.loc z)) := .set e p _
      obtain ⟨e2, H2, h2, h3, h4⟩ := ih K r g is is3 l _ H hr (hg.next (xs := [p]) h1 fun p hp => hp) hnd2 ((hf.sub fun q hq => by simp [hq]).set (fun cs _ hp => hdis p hp (by simp)) (fun q o ht => by cases ht)) (fun q hq => by simp; exact hl q (by simp [hq])) h
      refine ⟨e2, H2, h2, ?_, fun hp => by simp [plain] at hp⟩
      rw [flat_cons (e1 := e.set p (.loc z)) (H1 := H)]
      · exact h3
      · rw [stepI_on hg]; rfl
  | st hp n b x rs ih =>
    intro R K r g is is2 its e H hr hg hnd hf hl h
    cases is with
    | nil => simp [row] at hr
    | cons i is =>
      simp only [row, Option.map_eq_some_iff] at hr
      obtain ⟨⟨l, is3⟩, hr, he⟩ := hr
      cases he
      simp only [dsts] at hg hnd hf hl
      simp only [runOps] at h
      obtain ⟨v, hv, h⟩ := Option.bind_eq_some_iff.1 h
      obtain ⟨xs, hxs, h⟩ := Option.bind_eq_some_iff.1 h
      split at h
      · cases h
      · rename_i hlen
        rcases placeK_nat h with ⟨p, o, h, hroot, hn⟩ | ⟨j, o, h, hn⟩
        · split at h
          · cases h
          rename_i hhp
          obtain ⟨cs, hcs, h⟩ := Option.bind_eq_some_iff.1 h
          split at h
          · rename_i hle
            have hp := hf.rooted hroot
            have hg2 : GuardOn g (e.set p (.loc (splice cs o xs))) (dsts rs) := by
              cases g with
              | none => trivial
              | some y =>
                obtain ⟨c, want⟩ := y
                refine ⟨?_, hg.2⟩
                have hcp : c ≠ p := by
                  intro hcp; subst hcp
                  have h1 := hg.1
                  unfold guardOf at h1
                  unfold locCells at hcs
                  split at hcs
                  · rename_i hc; rw [hc] at h1; cases h1
                  · cases hcs
                rw [guardOf_get (get_set_ne hcp)]; exact hg.1
            obtain ⟨e2, H2, h2, h3, h4⟩ := ih K r g is is3 l _ H hr hg2 hnd (hf.set (fun cs _ => hp) (fun q o ht => by cases ht)) (fun q hq => by simp; exact hl q hq) h
            refine ⟨e2, H2, h2, ?_, fun hp => by simp [plain] at hp⟩
            rw [flat_cons (e1 := e.set p (.loc (splice cs o xs))) (H1 := H)]
            · exact h3
            · rw [stepI_on hg]; simp only [stepA, hv, hxs, Option.bind_some, if_neg hlen]; rw [hn, if_neg hhp, hcs, Option.bind_some, if_pos hle]
          · cases h
        · obtain ⟨H1, hst, h⟩ := Option.bind_eq_some_iff.1 h
          obtain ⟨e2, H2, h2, h3, h4⟩ := ih K r g is is3 l _ H1 hr hg hnd hf hl h
          refine ⟨e2, H2, h2, ?_, fun hp => by simp [plain] at hp⟩
          rw [flat_cons (e1 := e) (H1 := H1)]
          · exact h3
          · rw [stepI_on hg]; simp only [stepA, hv, hxs, Option.bind_some, if_neg hlen]; rw [hn, hst, Option.bind_some]
  | logic and c inner keep d rs ih1 ih2 =>
    intro R K r g is is2 its e H hr hg hnd hf hl h
    simp only [row] at hr
    split at hr
    · rename_i hh
      simp only [Bool.and_eq_true, Bool.not_eq_true', List.contains_eq_mem, decide_eq_false_iff_not] at hh
      obtain ⟨⟨⟨hpl, hci⟩, hdi⟩, hsk⟩ := hh
      split at hr
      · rename_i l i is3 hr1
        simp only [Option.map_eq_some_iff] at hr
        obtain ⟨⟨l2, is4⟩, hr2, he⟩ := hr
        cases he
        simp only [dsts] at hg hnd hf hl
        simp only [runOps] at h
        obtain ⟨b, hb, h⟩ := Option.bind_eq_some_iff.1 h
        obtain ⟨⟨q, H1⟩, hq, h⟩ := Option.bind_eq_some_iff.1 h
        have hfi : Free e (dsts inner) := hf.sub fun p hp => by simp [hp]
        have hli : ∀ p ∈ dsts inner, p < e.length := fun p hp => hl p (by simp [hp])
        have hgc : guardOf e c = some (some b) := by
          unfold evB evC ev at hb
          unfold guardOf
          simp only at hb
          split at hb
          · rename_i v hv
            rw [hv]
            simp only [Option.bind_some] at hb
            cases v with
            | c y => cases y <;> simp [V.asC, C.asB] at hb; subst hb; rfl
            | agg cs => simp [V.asC] at hb
            | tuple vs => simp [V.asC] at hb
          · simp at hb
        have hnd1 : (dsts inner).Nodup := (List.nodup_append.1 hnd).1
        -- the group: the frame is the same but for its slots
        have key : ∃ e1, flat lim call l e H = some (e1, H1) ∧ Same (dsts inner) e e1 ∧ (if b = and then evB e1 keep else some b) = some q := by
          by_cases hba : b = and
          · subst hba
            rw [if_pos rfl] at hq
            obtain ⟨e1, H2, h2, h3, h4⟩ := ih1 _ _ (some (c, b)) is (i :: is3) l e H hr1 ⟨hgc, hci⟩ hnd1 hfi hli hq
            obtain ⟨q', hq', h2⟩ := Option.bind_eq_some_iff.1 h2
            cases h2
            exact ⟨e1, h3, h4 hpl, by rw [if_pos rfl]; exact hq'⟩
          · rw [if_neg hba] at hq
            cases hq
            obtain ⟨e1, h1, h2⟩ := row_skip (lim := lim) (call := call) inner c and [] is l (i :: is3) e H (some b) hr1 hgc (by simpa using hba) hci hsk (by simp) hpl hli
            exact ⟨e1, h1, h2, by rw [if_neg hba]⟩
        obtain ⟨e1, h1, h2, h3⟩ := key
        have hce : evB e1 (.t c) = some b := by
          have : e1.get c = e.get c := h2.get hci
          unfold evB evC ev at hb ⊢
          simp only [this]; exact hb
        have henv : Env.killS (dsts inner) (e1.set d (.val (.c (.bool q)))) = (Env.kill (dsts inner) e).put d (.val (.c (.bool q))) := by
          rw [killS_set hdi, h2.killS, hfi.kill]
          refine ((Free.killS hf).put (S := dsts inner ++ d :: dsts rs) (by simp) (fun q o ht => by cases ht)).symm
        rw [← henv] at h
        have h5 : Same (dsts inner ++ [d] ++ dsts inner) e (Env.killS (dsts inner) (e1.set d (.val (.c (.bool q))))) := (h2.trans (.set e1 d _)).trans killS_Same
        have hnd3 := nodup_app (xs := dsts inner ++ [d]) (ys := dsts rs) (by simpa using hnd)
        have hsub : ∀ p ∈ dsts inner ++ [d] ++ dsts inner, p ∈ dsts inner ++ [d] := fun p hp => by
          simp only [List.mem_append, List.mem_singleton] at hp ⊢; rcases hp with (h | h) | h <;> simp [h]
        obtain ⟨e2, H2, h6, h7, h8⟩ := ih2 K r g is3 is4 l2 _ H1 hr2 (GuardOn.next (xs := dsts inner ++ [d]) (by simpa using hg) h5 hsub) hnd3.1
          (by
            rw [henv, hfi.kill, (Free.killS hf).put (S := dsts inner ++ d :: dsts rs) (by simp) (fun q o ht => by cases ht)]
            exact Free.set (Free.killS (hf.sub fun p hp => by simp [hp])) (fun cs ht => by cases ht) (fun q o ht => by cases ht))
          (fun p hp => by rw [h5.1]; exact hl p (by simp [hp])) h
        refine ⟨e2, H2, h6, ?_, fun hp => ?_⟩
        · rw [flat_append, h1, Option.bind_some]
          rw [flat_cons (e1 := Env.killS (dsts inner) (e1.set d (.val (.c (.bool q))))) (H1 := H1)]
          · exact h7
          · have hg1 : GuardOn g e1 (d :: dsts rs) := hg.next h2 fun p hp => hp
            rw [stepI_on hg1]; simp only [stepA, hce, Option.bind_some, h3]
        · simp only [plain, Bool.and_eq_true] at hp
          have := h5.trans (h8 hp.2)
          refine ⟨this.1, fun p hp => this.2 p ?_⟩
          simp only [dsts, List.mem_append, List.mem_cons, List.not_mem_nil, or_false] at hp ⊢
          intro h
          exact hp (by rcases h with ((h | h) | h) | h <;> simp [h])
      · cases hr
    · cases hr
end
end Go.Proofs.Ytnnjklkfcleleaa.Vm
