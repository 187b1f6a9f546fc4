/-
  THE MACHINE AND THE MODEL: a frame's slots; the comparison of a resolved operation with the given one; one operation.
-/
import Derived.Test.YtnnjklkfcleleaaVd
import Derived.Laws.Build
import Derived.Laws.Small
import Derived.Laws.Strings
namespace Go.Proofs.Ytnnjklkfcleleaa.Vm
open Go
set_option linter.unusedVariables false
set_option linter.unusedSimpArgs false
variable {lim base : Nat} {P : Program}

def LocRel (lim : Nat) (φ : Phi) (w : World) (b : Nat) (cs : List C) : Prop :=
  (∃ A el, w.heap[b]? = some (.cells A el (0, 0)) ∧ CsRel lim φ cs A.toList) ∧ ∀ j p, φ j = some p → p.blk ≠ b

def TRel (lim : Nat) (φ : Phi) (ψ : Nat → Nat) (e : Env) (w : World) (p : Nat) : T → Value → Prop
  | .poison, _ => True
  | .val v, x => VRel lim φ v x
  | .loc cs, x => x = .pointer (some ⟨ψ p, 0, none⟩) ∧ LocRel lim φ w (ψ p) cs
  | .laddr q o, x => x = .pointer (some ⟨ψ q, o, none⟩) ∧ ∃ cs, e[q]? = some (.loc cs)

structure ERel (lim base : Nat) (φ : Phi) (ψ : Nat → Nat) (e : Env) (ts : Array Value) (w : World) : Prop where
  len : e.length = ts.size
  tmp : ∀ p t, e[p]? = some t → ∃ x, ts[p]? = some x ∧ TRel lim φ ψ e w p t x
  inj : ∀ (p q : Nat) cs cs', e[p]? = some (.loc cs) → e[q]? = some (.loc cs') → ψ p = ψ q → p = q
  low : ∀ (p : Nat) cs, e[p]? = some (.loc cs) → base ≤ ψ p

theorem LocRel.lt {φ : Phi} {w : World} {b : Nat} {cs : List C} (h : LocRel lim φ w b cs) : b < w.heap.size := by
  obtain ⟨⟨A, el, h1, _⟩, _⟩ := h
  exact (Array.getElem?_eq_some_iff.1 h1).1
theorem LocRel.ext {φ φ' : Phi} {w w' : World} {b : Nat} {cs : List C} (h : LocRel lim φ w b cs) (k : Ext lim φ w φ' w') : LocRel lim φ' w' b cs := by
  have hlt := h.lt
  obtain ⟨⟨A, el, h1, h2⟩, h3⟩ := h
  refine ⟨⟨A, el, by rw [k.same b hlt (fun j q _ hq => h3 j q hq)]; exact h1, h2.mono k.mono⟩, fun j p hp e => ?_⟩
  rcases k.fresh j p hp with hp | ⟨_, hs | ⟨j', q, _, hq, eq⟩⟩
  · exact h3 j p hp e
  · omega
  · exact h3 j' q hq (eq.trans e)
theorem ERel.ext {φ φ' : Phi} {ψ : Nat → Nat} {e : Env} {ts : Array Value} {w w' : World} (h : ERel lim base φ ψ e ts w) (k : Ext lim φ w φ' w') : ERel lim base φ' ψ e ts w' := by
  refine ⟨h.len, fun p t ht => ?_, h.inj, h.low⟩
  obtain ⟨x, hx, hr⟩ := h.tmp p t ht
  refine ⟨x, hx, ?_⟩
  cases t with
  | poison => trivial
  | val v => exact hr.mono k.mono
  | loc cs => exact ⟨hr.1, hr.2.ext k⟩
  | laddr q o => exact hr

/-- what an operation may yield -/
def ORel (lim : Nat) (φ : Phi) (ψ : Nat → Nat) (e : Env) : T → Value → Prop
  | .poison, _ => True
  | .val v, x => VRel lim φ v x
  | .loc _, _ => False
  | .laddr q o, x => x = .pointer (some ⟨ψ q, o, none⟩) ∧ ∃ cs, e[q]? = some (.loc cs)

theorem Env.get_eq {e : Env} {p : Nat} {t : T} (h : e.get p = t) (ht : t ≠ .poison) : e[p]? = some t := by
  unfold Env.get at h
  rw [List.getD_eq_getElem?_getD] at h
  cases hp : e[p]? with
  | none => rw [hp] at h; exact absurd h.symm ht
  | some u => rw [hp] at h; exact congrArg some h

theorem put_aux {φ : Phi} {ψ : Nat → Nat} {e e1 : Env} {ts : Array Value} {w : World} (h : ERel lim base φ ψ e ts w) (d : Nat) {t : T} {x : Value} (ht : ORel lim φ ψ e t x)
    (hlen : e1.length = e.length) (h1 : ∀ p u, p ≠ d → e1[p]? = some u → ∃ u0, e[p]? = some u0 ∧ (u = u0 ∨ u = .poison) ∧ (∀ q o cs, u = .laddr q o → e[q]? = some (.loc cs) → q ≠ d ∧ e1[q]? = some (.loc cs)))
    (h2 : ∀ u, e1[d]? = some u → u = .poison ∨ (u = t ∧ ∀ q o cs, u = .laddr q o → e[q]? = some (.loc cs) → e1[q]? = some (.loc cs))) :
    ERel lim base φ ψ e1 (ts.setIfInBounds d x) w := by
  have hne : ∀ (p : Nat) cs, e1[p]? = some (T.loc cs) → e[p]? = some (.loc cs) := by
    intro p cs hp
    by_cases hpd : p = d
    · subst hpd
      rcases h2 _ hp with h3 | ⟨h3, _⟩
      · cases h3
      · subst h3; exact ht.elim
    · obtain ⟨u0, hu0, hor, _⟩ := h1 p _ hpd hp
      rcases hor with rfl | h3
      · exact hu0
      · cases h3
  refine ⟨by rw [hlen, h.len]; simp, fun p u hu => ?_, fun p q cs cs' hp hq e' => ?_, fun p cs hp => h.low p cs (hne p cs hp)⟩
  · by_cases hpd : p = d
    · subst hpd
      have hlt : p < ts.size := by rw [← h.len, ← hlen]; exact (List.getElem?_eq_some_iff.1 hu).1
      refine ⟨x, by simp [hlt], ?_⟩
      rcases h2 u hu with rfl | ⟨rfl, hl⟩
      · trivial
      · cases u with
        | poison => trivial
        | val v => exact ht
        | loc cs => exact ht.elim
        | laddr q o =>
          obtain ⟨h3, cs, h4⟩ := ht
          exact ⟨h3, cs, hl q o cs rfl h4⟩
    · obtain ⟨u0, hu0, hor, hl⟩ := h1 p u hpd hu
      obtain ⟨y, hy, hr⟩ := h.tmp p u0 hu0
      refine ⟨y, by rw [Array.getElem?_setIfInBounds, if_neg (fun e' => hpd e'.symm)]; exact hy, ?_⟩
      rcases hor with rfl | rfl
      · cases u with
        | poison => trivial
        | val v => exact hr
        | loc cs => exact hr
        | laddr q o =>
          obtain ⟨h3, cs, h4⟩ := hr
          exact ⟨h3, cs, (hl q o cs rfl h4).2⟩
      · trivial
  · exact h.inj p q cs cs' (hne p cs hp) (hne q cs' hq) e'

theorem purge_cases (p : Nat) (t : T) : t.purge p = t ∨ (t.purge p = .poison ∧ ∃ o, t = .laddr p o) := by
  cases t with
  | laddr q o =>
    by_cases h : q = p
    · exact .inr ⟨by simp [T.purge, h], o, by rw [h]⟩
    · exact .inl (by simp [T.purge, h])
  | _ => exact .inl rfl

theorem ERel.put {φ : Phi} {ψ : Nat → Nat} {e : Env} {ts : Array Value} {w : World} (h : ERel lim base φ ψ e ts w) (d : Nat) {t : T} {x : Value} (ht : ORel lim φ ψ e t x) :
    ERel lim base φ ψ (e.put d t) (ts.setIfInBounds d x) w := by
  unfold Env.put
  split
  · -- the slot held a local variable
    rename_i cs hd
    refine put_aux h d ht (by simp) (fun p u hpd hu => ?_) (fun u hu => ?_)
    · rw [List.getElem?_set_ne (Ne.symm hpd), List.getElem?_map] at hu
      cases hp : e[p]? with
      | none => rw [hp] at hu; cases hu
      | some u0 =>
        rw [hp] at hu; simp only [Option.map_some, Option.some.injEq] at hu
        refine ⟨u0, rfl, ?_, fun q o cs' hq hl => ?_⟩
        · rcases purge_cases d u0 with h1 | ⟨h1, _⟩
          · exact .inl (by rw [← hu, h1])
          · exact .inr (by rw [← hu, h1])
        · subst hu
          rcases purge_cases d u0 with h1 | ⟨h1, _⟩
          · rw [h1] at hq; subst hq
            have hqd : q ≠ d := by intro e'; simp [T.purge, e'] at h1
            refine ⟨hqd, ?_⟩
            rw [List.getElem?_set_ne (Ne.symm hqd), List.getElem?_map, hl]; rfl
          · rw [h1] at hq; cases hq
    · have hu2 : u = t.purge d := by
        have hlt := (List.getElem?_eq_some_iff.1 hu).1
        simp at hlt
        rw [List.getElem?_set_self (by simpa using hlt)] at hu
        exact (Option.some.inj hu).symm
      subst hu2
      rcases purge_cases d t with h1 | ⟨h1, _⟩
      · refine .inr ⟨h1, fun q o cs' hq hl => ?_⟩
        rw [h1] at hq; subst hq
        have hqd : q ≠ d := by intro e'; simp [T.purge, e'] at h1
        rw [List.getElem?_set_ne (Ne.symm hqd), List.getElem?_map, hl]; rfl
      · exact .inl h1
  · rename_i hd
    refine put_aux h d ht (by simp) (fun p u hpd hu => ?_) (fun u hu => ?_)
    · rw [List.getElem?_set_ne (Ne.symm hpd)] at hu
      refine ⟨u, hu, .inl rfl, fun q o cs' hq hl => ?_⟩
      have hqd : q ≠ d := by
        intro e'; subst e'
        exact hd cs' (by unfold Env.get; rw [List.getD_eq_getElem?_getD, hl]; rfl)
      exact ⟨hqd, by rw [List.getElem?_set_ne (Ne.symm hqd)]; exact hl⟩
    · have hu2 : u = t.purge d := by
        have hlt := (List.getElem?_eq_some_iff.1 hu).1
        simp at hlt
        rw [List.getElem?_set_self (by simpa using hlt)] at hu
        exact (Option.some.inj hu).symm
      subst hu2
      rcases purge_cases d t with h1 | ⟨h1, _⟩
      · refine .inr ⟨h1, fun q o cs' hq hl => ?_⟩
        rw [h1] at hq; subst hq
        have hqd : q ≠ d := by intro e'; simp [T.purge, e'] at h1
        rw [List.getElem?_set_ne (Ne.symm hqd)]; exact hl
      · exact .inl h1

/-- a slot is forgotten -/
theorem ERel.forget {φ : Phi} {ψ : Nat → Nat} {e : Env} {ts : Array Value} {w : World} (h : ERel lim base φ ψ e ts w) (d : Nat) : ERel lim base φ ψ (e.put d .poison) ts w := by
  by_cases hd : d < ts.size
  · have := h.put d (t := .poison) (x := ts[d]) trivial
    rwa [show ts.setIfInBounds d ts[d] = ts by simp [Array.setIfInBounds, hd]] at this
  · have := h.put d (t := .poison) (x := .nilFunc) trivial
    rwa [show ts.setIfInBounds d .nilFunc = ts by simp [Array.setIfInBounds, hd]] at this
theorem ERel.kill {φ : Phi} {ψ : Nat → Nat} {ts : Array Value} {w : World} : ∀ (ds : List Nat) {e : Env}, ERel lim base φ ψ e ts w → ERel lim base φ ψ (Env.kill ds e) ts w
  | [], _, h => h
  | d :: ds, _, h => ERel.kill ds (h.forget d)
/-- a forgotten slot may bear anything -/
theorem ERel.any {φ : Phi} {ψ : Nat → Nat} {e : Env} {ts : Array Value} {w : World} (h : ERel lim base φ ψ e ts w) (d : Nat) (hd : ∀ t, e[d]? = some t → t = .poison) (x : Value) : ERel lim base φ ψ e (ts.setIfInBounds d x) w := by
  refine ⟨by rw [h.len]; simp, fun p t hp => ?_, h.inj, h.low⟩
  by_cases e' : p = d
  · subst e'
    have := hd t hp
    subst this
    have hlt : p < ts.size := by rw [← h.len]; exact (List.getElem?_eq_some_iff.1 hp).1
    exact ⟨x, by simp [hlt], trivial⟩
  · obtain ⟨y, hy, hr⟩ := h.tmp p t hp
    exact ⟨y, by rw [Array.getElem?_setIfInBounds, if_neg (Ne.symm e')]; exact hy, hr⟩

/-! ### the comparison -/
def chkC : C → Value → Bool
  | .bool a, .bool b => a == b
  | .int k a, .int j b => k == j && a == b
  | .str a, .string b => decide (a = b)
  | .nilPtr, .pointer none => true
  | .nilSlice, .slice none 0 0 => true
  | .nilMap, .map none => true
  | .nilFunc, .nilFunc => true
  | .nilIface, .nilIface => true
  | _, _ => false
def chkCs : List C → List Value → Bool
  | [], [] => true
  | x :: xs, v :: vs => chkC x v && chkCs xs vs
  | _, _ => false
def chkV : V → Value → Bool
  | .c x, v => chkC x v
  | .agg cs, .agg arr => chkCs cs arr.toList
  | _, _ => false
def chkX : X → Operand → Bool
  | .t p, .tmp q => p == q
  | .c v, .const x => chkV v x
  | .f g, .func h => g == h
  | _, _ => false
def chkXs : List X → List Operand → Bool
  | [], [] => true
  | x :: xs, v :: vs => chkX x v && chkXs xs vs
  | _, _ => false

theorem chkC_rel {φ : Phi} {x : C} {v : Value} (h : chkC x v = true) : CRel lim φ x v := by
  cases x <;> cases v <;> simp [chkC] at h
  · subst h; exact .bool _
  · obtain ⟨rfl, rfl⟩ := h; exact .int _ _
  · subst h; exact .str _
  · rename_i a; cases a <;> simp [chkC] at h; exact .nilPtr
  · rename_i a n c; cases a <;> cases n <;> cases c <;> simp [chkC] at h; exact .nilSlice
  · rename_i a; cases a <;> simp [chkC] at h; exact .nilMap
  · exact .nilFunc
  · exact .nilIface
theorem chkCs_rel {φ : Phi} : ∀ {xs : List C} {vs : List Value}, chkCs xs vs = true → CsRel lim φ xs vs
  | [], [], _ => .nil
  | x :: xs, v :: vs, h => by
    simp only [chkCs, Bool.and_eq_true] at h
    exact .cons (chkC_rel h.1) (chkCs_rel h.2)
  | [], _ :: _, h => by simp [chkCs] at h
  | _ :: _, [], h => by simp [chkCs] at h
theorem chkV_rel {φ : Phi} {x : V} {v : Value} (h : chkV x v = true) : VRel lim φ x v := by
  cases x with
  | c x => exact .c (chkC_rel (by simpa [chkV] using h))
  | agg cs => cases v <;> simp [chkV] at h; exact .agg (chkCs_rel h)
  | tuple vs => simp [chkV] at h

section eval
variable {φ : Phi} {ψ : Nat → Nat} {e : Env} {a : Act} {w : World}
theorem ERel.getD (he : ERel lim base φ ψ e a.tmps w) {p : Nat} {t : T} (h : e.get p = t) (ht : t ≠ .poison) : TRel lim φ ψ e w p t (a.eval (.tmp p)) := by
  obtain ⟨x, hx, hr⟩ := he.tmp p t (Env.get_eq h ht)
  simpa [Act.eval, hx] using hr
theorem ev_rel (he : ERel lim base φ ψ e a.tmps w) {x : X} {y : Operand} (hc : chkX x y = true) {v : V} (h : ev e x = some v) : VRel lim φ v (a.eval y) := by
  cases x with
  | t p =>
    cases y <;> simp [chkX] at hc
    subst hc
    simp only [ev] at h
    split at h
    · rename_i u hu
      cases h
      exact he.getD hu (by simp)
    · cases h
  | c v' =>
    cases y <;> simp [chkX] at hc
    simp only [ev, Option.some.injEq] at h; subst h
    exact chkV_rel hc
  | f g =>
    cases y <;> simp [chkX] at hc
    subst hc
    simp only [ev, Option.some.injEq] at h; subst h
    exact .c (.func .nil .nil)
theorem evC_rel (he : ERel lim base φ ψ e a.tmps w) {x : X} {y : Operand} (hc : chkX x y = true) {v : C} (h : evC e x = some v) : CRel lim φ v (a.eval y) := by
  obtain ⟨u, hu, h⟩ := Option.bind_eq_some_iff.1 h
  have := ev_rel he hc hu
  cases u <;> simp [V.asC] at h
  subst h
  cases this with
  | c h => exact h
theorem evI_rel (he : ERel lim base φ ψ e a.tmps w) {k : IntKind} {x : X} {y : Operand} (hc : chkX x y = true) {n : Int} (h : evI k e x = some n) : a.eval y = .int k n := by
  obtain ⟨u, hu, h⟩ := Option.bind_eq_some_iff.1 h
  have := evC_rel he hc hu
  cases u <;> simp [C.asI] at h
  obtain ⟨rfl, rfl⟩ := h
  generalize a.eval y = z at this ⊢
  cases this; rfl
theorem evB_rel (he : ERel lim base φ ψ e a.tmps w) {x : X} {y : Operand} (hc : chkX x y = true) {b : Bool} (h : evB e x = some b) : a.eval y = .bool b := by
  obtain ⟨u, hu, h⟩ := Option.bind_eq_some_iff.1 h
  have := evC_rel he hc hu
  cases u <;> simp [C.asB] at h
  subst h
  generalize a.eval y = z at this ⊢
  cases this; rfl
theorem asIx_rel {x : C} {v : Value} (h : CRel lim φ x v) {n : Int} (hn : x.asIx = some n) : ∃ k, v = .int k n := by
  cases h <;> simp [C.asIx] at hn
  subst hn; exact ⟨_, rfl⟩
theorem asS_rel {x : C} {v : Value} (h : CRel lim φ x v) {n : ByteArray} (hn : x.asS = some n) : v = .string n := by
  cases h <;> simp [C.asS] at hn
  subst hn; rfl
theorem evs_rel (he : ERel lim base φ ψ e a.tmps w) : ∀ {xs : List X} {ys : List Operand} {vs : List V}, chkXs xs ys = true → evs e xs = some vs → VsRel lim φ vs (ys.map a.eval)
  | [], [], _, _, h => by simp only [evs, Option.some.injEq] at h; subst h; exact .nil
  | x :: xs, y :: ys, _, hc, h => by
    simp only [chkXs, Bool.and_eq_true] at hc
    simp only [evs] at h
    obtain ⟨v, hv, h⟩ := Option.bind_eq_some_iff.1 h
    obtain ⟨vs, hvs, h⟩ := Option.bind_eq_some_iff.1 h
    cases h
    exact .cons (ev_rel he hc.1 hv) (evs_rel he hc.2 hvs)
  | [], _ :: _, _, hc, _ => by simp [chkXs] at hc
  | _ :: _, [], _, hc, _ => by simp [chkXs] at hc
theorem evCs_rel (he : ERel lim base φ ψ e a.tmps w) : ∀ {xs : List X} {ys : List Operand} {vs : List C}, chkXs xs ys = true → evCs e xs = some vs → CsRel lim φ vs (ys.map a.eval)
  | [], [], _, _, h => by simp only [evCs, Option.some.injEq] at h; subst h; exact .nil
  | x :: xs, y :: ys, _, hc, h => by
    simp only [chkXs, Bool.and_eq_true] at hc
    simp only [evCs] at h
    obtain ⟨v, hv, h⟩ := Option.bind_eq_some_iff.1 h
    obtain ⟨vs, hvs, h⟩ := Option.bind_eq_some_iff.1 h
    cases h
    exact .cons (evC_rel he hc.1 hv) (evCs_rel he hc.2 hvs)
  | [], _ :: _, _, hc, _ => by simp [chkXs] at hc
  | _ :: _, [], _, hc, _ => by simp [chkXs] at hc

/-- where an address leads -/
def WRel (lim : Nat) (φ : Phi) (ψ : Nat → Nat) (e : Env) (w : World) : Where → Value → Prop
  | .loc p o, x => x = .pointer (some ⟨ψ p, o, none⟩) ∧ ∃ cs, e[p]? = some (.loc cs) ∧ LocRel lim φ w (ψ p) cs
  | .obj i o, x => ∃ p, φ i = some p ∧ x = .pointer (some ⟨p.blk, p.sh + o, none⟩)
theorem place_rel (he : ERel lim base φ ψ e a.tmps w) {x : X} {y : Operand} (hc : chkX x y = true) {r : Where} (h : place e x = some r) : WRel lim φ ψ e w r (a.eval y) := by
  cases x with
  | t p =>
    cases y <;> simp [chkX] at hc
    subst hc
    simp only [place] at h
    split at h
    · rename_i cs hu
      cases h
      have := he.getD hu (by simp)
      exact ⟨this.1, cs, Env.get_eq hu (by simp), this.2⟩
    · rename_i q o hu
      cases h
      obtain ⟨h1, cs, h2⟩ := he.getD hu (by simp)
      obtain ⟨x, hx, h3⟩ := he.tmp q _ h2
      exact ⟨h1, cs, h2, h3.2⟩
    · rename_i i o hu
      cases h
      have := he.getD hu (by simp)
      generalize a.eval (.tmp p) = z at this ⊢
      cases this with
      | c h => cases h with
        | ptr h => exact ⟨_, h, rfl⟩
    · cases h
  | c v' =>
    cases y <;> simp [chkX] at hc
    cases v' with
    | c x => cases x <;> simp [place] at h; simp [chkV, chkC] at hc
    | _ => simp [place] at h
  | f g => simp [place] at h
theorem placeK_some {R : Type} {x : X} {Kl Ko : Nat → Nat → Option R} {r : R} (h : placeK e x Kl Ko = some r) : (∃ p o, place e x = some (.loc p o) ∧ Kl p o = some r) ∨ ∃ i o, place e x = some (.obj i o) ∧ Ko i o = some r := by
  have key : ∀ (v : V), (v.asP.bind fun a => Ko a.1 a.2) = some r → ∃ i o, v = .c (.ptr i o) ∧ Ko i o = some r := by
    intro v hv
    obtain ⟨⟨i, o⟩, h1, h2⟩ := Option.bind_eq_some_iff.1 hv
    cases v with
    | c x => cases x <;> simp [V.asP, V.asC] at h1; obtain ⟨rfl, rfl⟩ := h1; exact ⟨_, _, rfl, h2⟩
    | agg cs => simp [V.asP, V.asC] at h1
    | tuple vs => simp [V.asP, V.asC] at h1
  cases x with
  | t p =>
    simp only [placeK] at h
    split at h
    · rename_i hu; exact .inl ⟨_, _, by simp [place, hu], h⟩
    · rename_i hu; exact .inl ⟨_, _, by simp [place, hu], h⟩
    · rename_i v hu
      obtain ⟨i, o, rfl, h2⟩ := key v h
      exact .inr ⟨i, o, by simp [place, hu], h2⟩
    · cases h
  | c v =>
    simp only [placeK] at h
    obtain ⟨i, o, rfl, h2⟩ := key v h
    exact .inr ⟨i, o, rfl, h2⟩
  | f g => cases h
theorem takeC_some {R : Type} {kd : K0} {x : C} {K : C → Option R} {r : R} (h : kd.take x K = some r) : K x = some r := by
  cases kd <;> simp only [K0.take] at h
  · exact h
  · obtain ⟨n, h1, h2⟩ := Option.bind_eq_some_iff.1 h
    cases x <;> simp [C.asI] at h1
    obtain ⟨rfl, rfl⟩ := h1; exact h2
  · obtain ⟨n, h1, h2⟩ := Option.bind_eq_some_iff.1 h
    cases x <;> simp [C.asB] at h1
    subst h1; exact h2
  · obtain ⟨n, h1, h2⟩ := Option.bind_eq_some_iff.1 h
    cases x <;> simp [C.asS] at h1
    subst h1; exact h2
theorem takes_some {R : Type} {r : R} : ∀ {ks : List K0} {xs : List C} {K : List C → Option R}, takes ks xs K = some r → K xs = some r
  | [], xs, K, h => by
    simp only [takes] at h
    split at h
    · rename_i h0; rwa [List.eq_nil_of_length_eq_zero h0]
    · cases h
  | k :: ks, xs, K, h => by
    simp only [takes] at h
    obtain ⟨x, h1, h2⟩ := Option.bind_eq_some_iff.1 h
    cases xs with
    | nil => simp [headC] at h1
    | cons y ys =>
      simp only [headC, Option.some.injEq] at h1; subst h1
      exact takes_some (xs := ys) (K := fun ys => K (y :: ys)) (takeC_some h2)
theorem take_some {R : Type} {kd : KD} {v : V} {K : V → Option R} {r : R} (h : kd.take v K = some r) : K v = some r := by
  cases kd <;> simp only [KD.take] at h
  · exact h
  · obtain ⟨x, h1, h2⟩ := Option.bind_eq_some_iff.1 h
    cases v <;> simp [V.asC] at h1
    subst h1; exact takeC_some h2
  · obtain ⟨x, h1, h2⟩ := Option.bind_eq_some_iff.1 h
    cases v <;> simp [V.asA] at h1
    subst h1; exact takes_some h2
theorem locCells_eq {p : Nat} {cs cs' : List C} (h : locCells e p = some cs) (h' : e[p]? = some (.loc cs')) : cs = cs' := by
  unfold locCells Env.get at h
  rw [List.getD_eq_getElem?_getD, h'] at h
  simpa using h.symm
theorem shift_rel {r : Where} {x : Value} (h : WRel lim φ ψ e w r x) (d : Nat) : ∃ b o, x = .pointer (some ⟨b, o, none⟩) ∧ ORel lim φ ψ e (r.shift d) (.pointer (some ⟨b, o + d, none⟩)) := by
  cases r with
  | loc p o =>
    obtain ⟨rfl, cs, h1, h2⟩ := h
    exact ⟨_, _, rfl, rfl, cs, h1⟩
  | obj i o =>
    obtain ⟨p, hp, rfl⟩ := h
    refine ⟨_, _, rfl, ?_⟩
    rw [show p.sh + o + d = p.sh + (o + d) by omega]
    exact .c (.ptr hp)
end eval
end Go.Proofs.Ytnnjklkfcleleaa.Vm
