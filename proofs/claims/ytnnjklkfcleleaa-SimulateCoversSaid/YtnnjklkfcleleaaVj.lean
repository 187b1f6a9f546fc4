/-
  THE MACHINE: what an operation reads, what it does to the heap.
-/
import Derived.Test.YtnnjklkfcleleaaVa
namespace Go.Proofs.Ytnnjklkfcleleaa.Vm
open Go
set_option linter.unusedVariables false
set_option linter.unusedSimpArgs false

def X.slots : X → List Nat
  | .t p => [p]
  | _ => []
def XO.slots : Option X → List Nat
  | some x => x.slots
  | none => []
def Xs.slots : List X → List Nat
  | [] => []
  | x :: xs => x.slots ++ Xs.slots xs
def Ps.slots : List (Nat × Nat × X) → List Nat
  | [] => []
  | (_, _, x) :: xs => x.slots ++ Ps.slots xs
/-- the slots that an operation looks at -/
def ROp.slots : ROp → List Nat
  | .mov x | .box _ x | .ld _ x | .lds _ x | .ldN _ x | .ldL _ x | .ldsL _ x | .nilck x | .eqN _ _ x | .not x | .neg _ x | .conv _ _ x | .fld _ x | .fldC _ x | .fldA _ _ x
  | .len x | .lenS x | .lenM x | .mkS _ _ x | .clr _ x | .ext _ x _ | .mkI _ x => x.slots
  | .new _ | .mkM => []
  | .build _ ps | .lit _ _ _ ps => Ps.slots ps
  | .ar _ _ x y | .cmp _ _ x y | .dv _ _ x y | .bit _ _ x y | .sh _ _ _ x y | .eqB _ x y | .cmpS _ x y | .catS x y | .idx _ x y | .idxA _ _ x y | .idxS x y
  | .app _ x y | .copy _ x y | .look _ _ _ _ x y | .mdel _ x y | .mm _ _ x y => x.slots ++ y.slots
  | .sub _ x l h | .subS x l h => x.slots ++ (XO.slots l ++ XO.slots h)
  | .mset _ x y z => x.slots ++ (y.slots ++ z.slots)
  | .mkF _ xs | .call _ _ xs => Xs.slots xs
  | .callV x _ xs => x.slots ++ Xs.slots xs

/-- two frames that say the same of some slots, and of the local variables that these lead to -/
def Agree (S : List Nat) (e e2 : Env) : Prop := ∀ p ∈ S, e2.get p = e.get p ∧ ∀ q o, e.get p = .laddr q o → e2.get q = e.get q
theorem Agree.left {S S2 : List Nat} {e e2 : Env} (h : Agree (S ++ S2) e e2) : Agree S e e2 := fun p hp => h p (List.mem_append_left _ hp)
theorem Agree.right {S S2 : List Nat} {e e2 : Env} (h : Agree (S ++ S2) e e2) : Agree S2 e e2 := fun p hp => h p (List.mem_append_right _ hp)

theorem ev_agree {e e2 : Env} : ∀ {x : X}, Agree x.slots e e2 → ev e2 x = ev e x
  | .t p, h => by simp only [ev]; rw [(h p (by simp [X.slots])).1]
  | .c _, _ => rfl
  | .f _, _ => rfl
theorem evC_agree {e e2 : Env} {x : X} (h : Agree x.slots e e2) : evC e2 x = evC e x := by unfold evC; rw [ev_agree h]
theorem evI_agree {e e2 : Env} {k : IntKind} {x : X} (h : Agree x.slots e e2) : evI k e2 x = evI k e x := by unfold evI; rw [evC_agree h]
theorem evB_agree {e e2 : Env} {x : X} (h : Agree x.slots e e2) : evB e2 x = evB e x := by unfold evB; rw [evC_agree h]
theorem evs_agree {e e2 : Env} : ∀ {xs : List X}, Agree (Xs.slots xs) e e2 → evs e2 xs = evs e xs
  | [], _ => rfl
  | x :: xs, h => by simp only [evs]; rw [ev_agree h.left, evs_agree h.right]
theorem evCs_agree {e e2 : Env} : ∀ {xs : List X}, Agree (Xs.slots xs) e e2 → evCs e2 xs = evCs e xs
  | [], _ => rfl
  | x :: xs, h => by simp only [evCs]; rw [evC_agree h.left, evCs_agree h.right]
theorem evLo_agree {e e2 : Env} : ∀ {x : Option X}, Agree (XO.slots x) e e2 → evLo e2 x = evLo e x
  | none, _ => rfl
  | some x, h => by simp only [evLo]; rw [evC_agree h]
theorem evHi_agree {e e2 : Env} : ∀ {x : Option X}, Agree (XO.slots x) e e2 → evHi e2 x = evHi e x
  | none, _ => rfl
  | some x, h => by simp only [evHi]; rw [evC_agree h]
theorem fillC_agree {e e2 : Env} : ∀ {ps : List (Nat × Nat × X)} {z : List C}, Agree (Ps.slots ps) e e2 → fillC e2 z ps = fillC e z ps
  | [], _, _ => by simp only [fillC]
  | (o, n, x) :: ps, z, h => by
    simp only [fillC]
    rw [ev_agree (x := x) h.left]
    congr 1; funext v; congr 1; funext xs
    rw [fillC_agree (ps := ps) h.right]
theorem locCells_agree {e e2 : Env} {p : Nat} (h : e2.get p = e.get p) : locCells e2 p = locCells e p := by unfold locCells; rw [h]
theorem placeK_agree {R : Type} {e e2 : Env} {x : X} {Kl Kl2 Ko : Nat → Nat → Option R} (h : Agree x.slots e e2) (hk : ∀ p o, locCells e2 p = locCells e p → Kl2 p o = Kl p o) : placeK e2 x Kl2 Ko = placeK e x Kl Ko := by
  cases x with
  | t p =>
    simp only [placeK]
    have h1 := h p (by simp [X.slots])
    rw [h1.1]
    split
    · exact hk _ _ (locCells_agree h1.1)
    · rename_i q o hq
      exact hk _ _ (locCells_agree (h1.2 q o hq))
    · rfl
    · rfl
  | c v => rfl
  | f g => rfl

section
variable {R : Type} {lim : Nat} {call : CallT}
theorem evalOp_agree {e e2 : Env} {H : Heap} {o : ROp} {K : T → Heap → Option R} (h : Agree o.slots e e2) : evalOp lim call e2 H o K = evalOp lim call e H o K := by
  cases o <;> simp only [evalOp, ROp.slots] at h ⊢
  case ld => exact placeK_agree h fun p o hp => by rw [hp]
  case lds => exact placeK_agree h fun p o hp => by rw [hp]
  case ldN => exact placeK_agree h fun p o hp => by rw [hp]
  case ldL => exact placeK_agree h fun p o hp => by rw [hp]
  case ldsL => exact placeK_agree h fun p o hp => by rw [hp]
  case fld => exact placeK_agree h fun p o hp => rfl
  case idxA =>
    rw [evC_agree h.right]
    congr 1; funext i; congr 1; funext m
    rw [placeK_agree h.left fun p o hp => rfl]
  all_goals first
    | rfl
    | rw [ev_agree h]
    | rw [evC_agree h]
    | rw [evI_agree h]
    | rw [evB_agree h]
    | rw [evs_agree h]
    | rw [evCs_agree h]
    | rw [fillC_agree h]
    | (rw [evI_agree h.left, evI_agree h.right]; done)
    | (rw [evB_agree h.left, evB_agree h.right]; done)
    | (rw [evC_agree h.left, evC_agree h.right]; done)
    | (rw [evC_agree h.left, evs_agree h.right]; done)
    | (rw [evC_agree h.left, evLo_agree h.right.left, evHi_agree h.right.right]; done)
    | (rw [evC_agree h.left, evC_agree h.right.left, ev_agree h.right.right]; done)

theorem take0_nat {R : Type} {k : K0} {x : C} {K : C → Option R} {r : R} (h : k.take x K = some r) : ∃ y, K y = some r ∧ ∀ {R2 : Type} (K2 : C → Option R2), k.take x K2 = K2 y := by
  cases k <;> simp only [K0.take] at h ⊢
  case c => exact ⟨x, h, fun _ => rfl⟩
  all_goals
    obtain ⟨y, hy, h⟩ := Option.bind_eq_some_iff.1 h
    exact ⟨_, h, fun K2 => by rw [hy]; rfl⟩
theorem takes_nat {R : Type} {r : R} : ∀ {ks : List K0} {xs : List C} {K : List C → Option R}, takes ks xs K = some r → ∃ ys, K ys = some r ∧ ∀ {R2 : Type} (K2 : List C → Option R2), takes ks xs K2 = K2 ys
  | [], xs, K, h => by
    simp only [takes] at h ⊢
    split at h
    · exact ⟨[], h, fun _ => by simp_all⟩
    · cases h
  | k :: ks, xs, K, h => by
    simp only [takes] at h ⊢
    obtain ⟨x, hx, h⟩ := Option.bind_eq_some_iff.1 h
    obtain ⟨y, h, hn⟩ := take0_nat h
    obtain ⟨ys, h, hn2⟩ := takes_nat h
    exact ⟨_, h, fun K2 => by rw [hx, Option.bind_some, hn, hn2]⟩
theorem take_nat {R : Type} {k : KD} {v : V} {K : V → Option R} {r : R} (h : k.take v K = some r) : ∃ u, K u = some r ∧ ∀ {R2 : Type} (K2 : V → Option R2), k.take v K2 = K2 u := by
  cases k <;> simp only [KD.take] at h ⊢
  case any => exact ⟨_, h, fun _ => rfl⟩
  case one =>
    obtain ⟨x, hx, h⟩ := Option.bind_eq_some_iff.1 h
    obtain ⟨y, h, hn⟩ := take0_nat h
    exact ⟨_, h, fun K2 => by rw [hx, Option.bind_some, hn]⟩
  case agg =>
    obtain ⟨x, hx, h⟩ := Option.bind_eq_some_iff.1 h
    obtain ⟨y, h, hn⟩ := takes_nat h
    exact ⟨_, h, fun K2 => by rw [hx, Option.bind_some, hn]⟩
theorem lds_nat {R : Type} {H : Heap} {i : Nat} {r : R} : ∀ {ks : List K0} {o : Nat} {K : List C → Option R}, H.lds i o ks K = some r → ∃ ys, K ys = some r ∧ ∀ {R2 : Type} (K2 : List C → Option R2), H.lds i o ks K2 = K2 ys
  | [], o, K, h => ⟨[], h, fun _ => rfl⟩
  | k :: ks, o, K, h => by
    simp only [Heap.lds] at h ⊢
    obtain ⟨x, hx, h⟩ := Option.bind_eq_some_iff.1 h
    obtain ⟨y, h, hn⟩ := take0_nat h
    obtain ⟨ys, h, hn2⟩ := lds_nat h
    exact ⟨_, h, fun K2 => by rw [hx, Option.bind_some, hn, hn2]⟩
def Rooted (e : Env) (q : Nat) : Prop := (∃ cs, e.get q = .loc cs) ∨ ∃ s o, e.get s = .laddr q o
theorem placeK_nat {R : Type} {e : Env} {x : X} {Kl Ko : Nat → Nat → Option R} {r : R} (h : placeK e x Kl Ko = some r) :
    (∃ p o, Kl p o = some r ∧ Rooted e p ∧ ∀ {R2 : Type} (Kl2 Ko2 : Nat → Nat → Option R2), placeK e x Kl2 Ko2 = Kl2 p o) ∨ (∃ i o, Ko i o = some r ∧ ∀ {R2 : Type} (Kl2 Ko2 : Nat → Nat → Option R2), placeK e x Kl2 Ko2 = Ko2 i o) := by
  cases x with
  | t p =>
    simp only [placeK] at h ⊢
    split at h
    · rename_i cs hp; exact .inl ⟨_, _, h, .inl ⟨_, hp⟩, fun _ _ => by simp only [hp]⟩
    · rename_i q o hp; exact .inl ⟨_, _, h, .inr ⟨_, _, hp⟩, fun _ _ => by simp only [hp]⟩
    · rename_i v hp
      obtain ⟨a, ha, h⟩ := Option.bind_eq_some_iff.1 h
      exact .inr ⟨_, _, h, fun _ _ => by simp only [hp, ha, Option.bind_some]⟩
    · cases h
  | c v =>
    simp only [placeK] at h ⊢
    obtain ⟨a, ha, h⟩ := Option.bind_eq_some_iff.1 h
    exact .inr ⟨_, _, h, fun _ _ => by simp only [ha, Option.bind_some]⟩
  | f g => cases h

/-- needs no heap -/
def ROp.neutral : ROp → Bool
  | .mov _ | .build _ _ | .ldL _ _ | .ldsL _ _ | .nilck _ | .ar _ _ _ _ | .cmp _ _ _ _ | .dv _ _ _ _ | .bit _ _ _ _ | .sh _ _ _ _ _ | .eqB _ _ _ | .cmpS _ _ _ | .catS _ _ | .eqN _ _ _ | .not _ | .neg _ _ | .conv _ _ _
  | .fld _ _ | .fldC _ _ | .fldA _ _ _ | .idx _ _ _ | .idxA _ _ _ _ | .idxS _ _ | .subS _ _ _ | .len _ | .lenS _ | .mkF _ _ | .ext _ _ _ | .mkI _ _ | .mm _ _ _ _ => true
  | _ => false
/-- changes no heap -/
def ROp.quiet : ROp → Bool
  | .ld _ _ | .lds _ _ | .ldN _ _ | .sub _ _ _ _ | .lenM _ | .look _ _ _ _ _ _ => true
  | o => o.neutral
structure Nat1 (lim : Nat) (call : CallT) (e : Env) (H : Heap) (o : ROp) (t : T) (H' : Heap) : Prop where
  noloc : ∀ cs, t ≠ .loc cs
  root : ∀ q d, t = .laddr q d → Rooted e q
  all : ∀ {R2 : Type} (K2 : T → Heap → Option R2), evalOp lim call e H o K2 = K2 t H'
  neutral : o.neutral = true → ∀ (H2 : Heap) {R2 : Type} (K2 : T → Heap → Option R2), evalOp lim call e H2 o K2 = K2 t H2
  quiet : o.quiet = true → H' = H
theorem Nat1.of {lim : Nat} {call : CallT} {e : Env} {H : Heap} {o : ROp} {v : V} (all : ∀ (H2 : Heap) {R2 : Type} (K2 : T → Heap → Option R2), evalOp lim call e H2 o K2 = K2 (.val v) H2) : Nat1 lim call e H o (.val v) H :=
  ⟨fun _ h => (by cases h), fun _ _ h => (by cases h), all H, fun _ => all, fun _ => rfl⟩
theorem Nat1.read {lim : Nat} {call : CallT} {e : Env} {H : Heap} {o : ROp} {v : V} (hn : o.neutral = false) (all : ∀ {R2 : Type} (K2 : T → Heap → Option R2), evalOp lim call e H o K2 = K2 (.val v) H) : Nat1 lim call e H o (.val v) H :=
  ⟨fun _ h => (by cases h), fun _ _ h => (by cases h), all, fun h => (by rw [hn] at h; cases h), fun _ => rfl⟩
theorem Nat1.loud {lim : Nat} {call : CallT} {e : Env} {H H' : Heap} {o : ROp} {t : T} (hn : o.quiet = false) (hn2 : o.neutral = false) (ht : t = .poison ∨ ∃ v, t = .val v) (all : ∀ {R2 : Type} (K2 : T → Heap → Option R2), evalOp lim call e H o K2 = K2 t H') : Nat1 lim call e H o t H' :=
  ⟨fun _ h => (by rcases ht with rfl | ⟨v, rfl⟩ <;> cases h), fun _ _ h => (by rcases ht with rfl | ⟨v, rfl⟩ <;> cases h), all, fun h => (by rw [hn2] at h; cases h), fun h => (by rw [hn] at h; cases h)⟩

set_option maxHeartbeats 1000000 in
theorem evalOp_nat {e : Env} {H : Heap} {o : ROp} {K : T → Heap → Option R} {r : R} (h : evalOp lim call e H o K = some r) : ∃ t H', K t H' = some r ∧ Nat1 lim call e H o t H' := by
  cases o
  case ld kd a =>
    simp only [evalOp] at h
    rcases placeK_nat h with ⟨p, q, h, hr, hn⟩ | ⟨i, q, h, hn⟩
    · obtain ⟨cs, hcs, h⟩ := Option.bind_eq_some_iff.1 h
      obtain ⟨x, hx, h⟩ := Option.bind_eq_some_iff.1 h
      obtain ⟨y, h, hn2⟩ := take0_nat h
      exact ⟨_, _, h, .read rfl fun K2 => by simp only [evalOp]; rw [hn, hcs, Option.bind_some, hx, Option.bind_some, hn2]⟩
    · obtain ⟨x, hx, h⟩ := Option.bind_eq_some_iff.1 h
      obtain ⟨y, h, hn2⟩ := take0_nat h
      exact ⟨_, _, h, .read rfl fun K2 => by simp only [evalOp]; rw [hn, hx, Option.bind_some, hn2]⟩
  case lds kds a =>
    simp only [evalOp] at h
    rcases placeK_nat h with ⟨p, q, h, hr, hn⟩ | ⟨i, q, h, hn⟩
    · obtain ⟨cs, hcs, h⟩ := Option.bind_eq_some_iff.1 h
      split at h
      · rename_i hc; exact ⟨_, _, h, .read rfl fun K2 => by simp only [evalOp]; rw [hn, hcs, Option.bind_some, if_pos hc]⟩
      · cases h
    · obtain ⟨y, h, hn2⟩ := lds_nat h
      exact ⟨_, _, h, .read rfl fun K2 => by simp only [evalOp]; rw [hn, hn2]⟩
  case ldN n a =>
    simp only [evalOp] at h
    rcases placeK_nat h with ⟨p, q, h, hr, hn⟩ | ⟨i, q, h, hn⟩
    · obtain ⟨cs, hcs, h⟩ := Option.bind_eq_some_iff.1 h
      split at h
      · rename_i hc; exact ⟨_, _, h, .read rfl fun K2 => by simp only [evalOp]; rw [hn, hcs, Option.bind_some, if_pos hc]⟩
      · cases h
    · obtain ⟨x, hx, h⟩ := Option.bind_eq_some_iff.1 h
      exact ⟨_, _, h, .read rfl fun K2 => by simp only [evalOp]; rw [hn, hx, Option.bind_some]⟩
  case ldL kd a =>
    simp only [evalOp] at h
    rcases placeK_nat h with ⟨p, q, h, hr, hn⟩ | ⟨i, q, h, hn⟩
    · obtain ⟨cs, hcs, h⟩ := Option.bind_eq_some_iff.1 h
      obtain ⟨x, hx, h⟩ := Option.bind_eq_some_iff.1 h
      obtain ⟨y, h, hn2⟩ := take0_nat h
      exact ⟨_, _, h, .of fun H2 _ K2 => by simp only [evalOp]; rw [hn, hcs, Option.bind_some, hx, Option.bind_some, hn2]⟩
    · cases h
  case ldsL kds a =>
    simp only [evalOp] at h
    rcases placeK_nat h with ⟨p, q, h, hr, hn⟩ | ⟨i, q, h, hn⟩
    · obtain ⟨cs, hcs, h⟩ := Option.bind_eq_some_iff.1 h
      split at h
      · rename_i hc; exact ⟨_, _, h, .of fun H2 _ K2 => by simp only [evalOp]; rw [hn, hcs, Option.bind_some, if_pos hc]⟩
      · cases h
    · cases h
  case fld d a =>
    simp only [evalOp] at h
    rcases placeK_nat h with ⟨p, q, h, hr, hn⟩ | ⟨i, q, h, hn⟩
    · exact ⟨_, _, h, ⟨fun _ h => (by cases h), fun _ _ h => (by cases h; exact hr), fun K2 => (by simp only [evalOp]; rw [hn]), fun _ H2 _ K2 => (by simp only [evalOp]; rw [hn]), fun _ => rfl⟩⟩
    · exact ⟨_, _, h, .of fun H2 _ K2 => by simp only [evalOp]; rw [hn]⟩
  case idxA n sz a i =>
    simp only [evalOp] at h
    obtain ⟨c, hc, h⟩ := Option.bind_eq_some_iff.1 h
    obtain ⟨m, hm, h⟩ := Option.bind_eq_some_iff.1 h
    split at h
    · rename_i hb
      rcases placeK_nat h with ⟨p, q, h, hr, hn⟩ | ⟨i, q, h, hn⟩
      · exact ⟨_, _, h, ⟨fun _ h => (by cases h), fun _ _ h => (by cases h; exact hr), fun K2 => (by simp only [evalOp]; rw [hc, Option.bind_some, hm, Option.bind_some, if_pos hb, hn]),
          fun _ H2 _ K2 => (by simp only [evalOp]; rw [hc, Option.bind_some, hm, Option.bind_some, if_pos hb, hn]), fun _ => rfl⟩⟩
      · exact ⟨_, _, h, .of fun H2 _ K2 => by simp only [evalOp]; rw [hc, Option.bind_some, hm, Option.bind_some, if_pos hb, hn]⟩
    · cases h
  case nilck x =>
    simp only [evalOp] at h
    obtain ⟨c, hc, h⟩ := Option.bind_eq_some_iff.1 h
    split at h
    · exact ⟨_, _, h, .of fun H2 _ K2 => by simp only [evalOp]; rw [hc]; rfl⟩
    · cases h
  case mkI t x =>
    simp only [evalOp] at h
    obtain ⟨c, hc, h⟩ := Option.bind_eq_some_iff.1 h
    split at h
    · exact ⟨_, _, h, .of fun H2 _ K2 => by simp only [evalOp]; rw [hc]; rfl⟩
    · exact ⟨_, _, h, .of fun H2 _ K2 => by simp only [evalOp]; rw [hc]; rfl⟩
    · cases h
  case look kk z ok kd m k =>
    simp only [evalOp] at h
    obtain ⟨x1, h1, h⟩ := Option.bind_eq_some_iff.1 h
    obtain ⟨x2, h2, h⟩ := Option.bind_eq_some_iff.1 h
    obtain ⟨x3, h3, h⟩ := Option.bind_eq_some_iff.1 h
    obtain ⟨x4, h4, h⟩ := Option.bind_eq_some_iff.1 h
    obtain ⟨y, h, hn⟩ := take_nat h
    exact ⟨_, _, h, .read rfl fun K2 => by simp only [evalOp, h1, h2, h3, h4, Option.bind_some]; rw [hn]⟩
  case ext kd x i =>
    simp only [evalOp] at h
    obtain ⟨x1, h1, h⟩ := Option.bind_eq_some_iff.1 h
    obtain ⟨x2, h2, h⟩ := Option.bind_eq_some_iff.1 h
    obtain ⟨y, h, hn⟩ := take_nat h
    exact ⟨_, _, h, .of fun H2 _ K2 => by simp only [evalOp, h1, h2, Option.bind_some]; rw [hn]⟩
  case call f kd xs =>
    simp only [evalOp] at h
    obtain ⟨x1, h1, h⟩ := Option.bind_eq_some_iff.1 h
    obtain ⟨x2, h2, h⟩ := Option.bind_eq_some_iff.1 h
    obtain ⟨y, h, hn⟩ := take_nat h
    exact ⟨_, _, h, .loud rfl rfl (.inr ⟨_, rfl⟩) fun K2 => by simp only [evalOp, h1, h2, Option.bind_some]; rw [hn]⟩
  case callV x kd xs =>
    simp only [evalOp] at h
    obtain ⟨x1, h1, h⟩ := Option.bind_eq_some_iff.1 h
    obtain ⟨x2, h2, h⟩ := Option.bind_eq_some_iff.1 h
    obtain ⟨x3, h3, h⟩ := Option.bind_eq_some_iff.1 h
    obtain ⟨x4, h4, h⟩ := Option.bind_eq_some_iff.1 h
    obtain ⟨y, h, hn⟩ := take_nat h
    exact ⟨_, _, h, .loud rfl rfl (.inr ⟨_, rfl⟩) fun K2 => by simp only [evalOp, h1, h2, h3, h4, Option.bind_some]; rw [hn]⟩
  case sub sz x lo hi =>
    simp only [evalOp] at h
    obtain ⟨x1, h1, h⟩ := Option.bind_eq_some_iff.1 h
    obtain ⟨x2, h2, h⟩ := Option.bind_eq_some_iff.1 h
    obtain ⟨x3, h3, h⟩ := Option.bind_eq_some_iff.1 h
    obtain ⟨x4, h4, h⟩ := Option.bind_eq_some_iff.1 h
    exact ⟨_, _, h, .read rfl fun K2 => by simp only [evalOp, h1, h2, h3, h4, Option.bind_some]⟩
  case lenM x =>
    simp only [evalOp] at h
    obtain ⟨x1, h1, h⟩ := Option.bind_eq_some_iff.1 h
    obtain ⟨x2, h2, h⟩ := Option.bind_eq_some_iff.1 h
    exact ⟨_, _, h, .read rfl fun K2 => by simp only [evalOp, h1, h2, Option.bind_some]⟩
  case mm mx k x y =>
    simp only [evalOp] at h
    obtain ⟨x1, h1, h⟩ := Option.bind_eq_some_iff.1 h
    obtain ⟨x2, h2, h⟩ := Option.bind_eq_some_iff.1 h
    exact ⟨_, _, h, .of fun H2 _ K2 => by simp only [evalOp, h1, h2, Option.bind_some]⟩
  case new z => exact ⟨_, _, h, .loud rfl rfl (.inr ⟨_, rfl⟩) fun K2 => rfl⟩
  case mkM => exact ⟨_, _, h, .loud rfl rfl (.inr ⟨_, rfl⟩) fun K2 => rfl⟩
  all_goals
    simp only [evalOp] at h
    obtain ⟨x1, h1, h⟩ := Option.bind_eq_some_iff.1 h
    try (rw [Option.bind_eq_some_iff] at h; obtain ⟨x2, h2, h⟩ := h)
    try (rw [Option.bind_eq_some_iff] at h; obtain ⟨x3, h3, h⟩ := h)
    try (rw [Option.bind_eq_some_iff] at h; obtain ⟨x4, h4, h⟩ := h)
    try (rw [Option.bind_eq_some_iff] at h; obtain ⟨x5, h5, h⟩ := h)
    try (split at h <;> first | cases h | skip)
    try rename_i hb
    try (rw [Option.bind_eq_some_iff] at h; obtain ⟨x6, h6, h⟩ := h)
    first
      | exact ⟨_, _, h, .of fun H2 _ K2 => by simp only [evalOp, *, Option.bind_some]; try simp [*]⟩
      | exact ⟨_, _, h, .read rfl fun K2 => by simp only [evalOp, *, Option.bind_some]; try simp [*]⟩
      | exact ⟨_, _, h, .loud rfl rfl (.inr ⟨_, rfl⟩) fun K2 => by simp only [evalOp, *, Option.bind_some]; try simp [*]⟩
      | exact ⟨_, _, h, .loud rfl rfl (.inl rfl) fun K2 => by simp only [evalOp, *, Option.bind_some]; try simp [*]⟩
end
end Go.Proofs.Ytnnjklkfcleleaa.Vm
