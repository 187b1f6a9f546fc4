/-
  THE MACHINE'S ANSWER FOR ENOUGH ROUNDS: 'run' meets its own equation.
-/
import Derived.Test.YtnnjklkfcleleaaVa
namespace Go.Proofs.Ytnnjklkfcleleaa.Vm
open Go
set_option linter.unusedVariables false
set_option linter.unusedSimpArgs false

/-- g climbs to a -/
structure Apx {α : Type} (g : Nat → Option α) (a : Option α) : Prop where
  up : ∀ k x, g k = some x → g (k + 1) = some x
  hi : ∀ k x, g k = some x → a = some x
  ex : ∀ x, a = some x → ∃ k, g k = some x

theorem Apx.at_ {α : Type} {g : Nat → Option α} {a : Option α} (h : Apx g a) {k : Nat} {x : α} (hk : g k = some x) : ∀ j, g (k + j) = some x
  | 0 => hk
  | j + 1 => h.up _ _ (h.at_ hk j)
theorem Apx.le {α : Type} {g : Nat → Option α} {a : Option α} (h : Apx g a) {k m : Nat} {x : α} (hk : g k = some x) (hm : k ≤ m) : g m = some x := by
  obtain ⟨j, rfl⟩ := Nat.exists_eq_add_of_le hm
  exact h.at_ hk j
theorem Apx.const {α : Type} (a : Option α) : Apx (fun _ => a) a := ⟨fun _ _ h => h, fun _ _ h => h, fun _ h => ⟨0, h⟩⟩
theorem Apx.bind {α β : Type} {g : Nat → Option α} {a : Option α} {f : Nat → α → Option β} {f' : α → Option β} (h : Apx g a) (hf : ∀ x, Apx (fun k => f k x) (f' x)) :
    Apx (fun k => (g k).bind (f k)) (a.bind f') := by
  refine ⟨fun k y hy => ?_, fun k y hy => ?_, fun y hy => ?_⟩
  · obtain ⟨x, hx, hy⟩ := Option.bind_eq_some_iff.1 hy
    exact Option.bind_eq_some_iff.2 ⟨x, h.up _ _ hx, (hf x).up _ _ hy⟩
  · obtain ⟨x, hx, hy⟩ := Option.bind_eq_some_iff.1 hy
    exact Option.bind_eq_some_iff.2 ⟨x, h.hi _ _ hx, (hf x).hi _ _ hy⟩
  · obtain ⟨x, hx, hy⟩ := Option.bind_eq_some_iff.1 hy
    obtain ⟨k1, h1⟩ := h.ex _ hx
    obtain ⟨k2, h2⟩ := (hf x).ex _ hy
    exact ⟨max k1 k2, Option.bind_eq_some_iff.2 ⟨x, h.le h1 (Nat.le_max_left _ _), (hf x).le h2 (Nat.le_max_right _ _)⟩⟩
theorem Apx.cbind {α β : Type} {a : Option α} {f : Nat → α → Option β} {f' : α → Option β} (hf : ∀ x, Apx (fun k => f k x) (f' x)) :
    Apx (fun k => a.bind (f k)) (a.bind f') := (Apx.const a).bind hf
theorem Apx.ite {α : Type} {c : Prop} [Decidable c] {g h : Nat → Option α} {a b : Option α} (hg : Apx g a) (hh : Apx h b) :
    Apx (fun k => if c then g k else h k) (if c then a else b) := by
  by_cases hc : c
  · simpa [hc] using hg
  · simpa [hc] using hh
theorem Apx.unique {α : Type} {g : Nat → Option α} {a b : Option α} (h : Apx g a) (h' : Apx g b) : a = b := by
  cases ha : a with
  | some x => obtain ⟨k, hk⟩ := h.ex _ ha; exact (h'.hi _ _ hk).symm
  | none => cases hb : b with
    | none => rfl
    | some y => obtain ⟨k, hk⟩ := h'.ex _ hb; rw [h.hi _ _ hk] at ha; cases ha
theorem Apx.shift {α : Type} {g : Nat → Option α} {a : Option α} (h : Apx g a) : Apx (fun k => g (k + 1)) a :=
  ⟨fun k x hx => h.up _ _ hx, fun k x hx => h.hi _ _ hx, fun x hx => let ⟨k, hk⟩ := h.ex _ hx; ⟨k, h.up _ _ hk⟩⟩
/-- two answers, the lower one first -/
theorem Apx.two {α : Type} {a b : Option α} (h : ∀ x, a = some x → b = some x) : Apx (fun k => if k = 0 then a else b) b :=
  ⟨fun k _ _ => by by_cases hk : k = 0 <;> simp_all, fun k _ _ => by by_cases hk : k = 0 <;> simp_all, fun _ hx => ⟨1, by simpa using hx⟩⟩

theorem apx_take0 {R : Type} (kd : K0) (x : C) {K : Nat → C → Option R} {K' : C → Option R} (hK : ∀ x, Apx (fun k => K k x) (K' x)) : Apx (fun k => kd.take x (K k)) (kd.take x K') := by
  cases kd <;> simp only [K0.take] <;> first | exact hK _ | exact .cbind fun _ => hK _
theorem apx_takes {R : Type} : ∀ (ks : List K0) (xs : List C) {K : Nat → List C → Option R} {K' : List C → Option R} (hK : ∀ x, Apx (fun k => K k x) (K' x)), Apx (fun k => takes ks xs (K k)) (takes ks xs K')
  | [], xs, _, _, hK => by simp only [takes]; exact .ite (hK _) (.const _)
  | k :: ks, xs, _, _, hK => by
    simp only [takes]
    exact .cbind fun x => apx_take0 k x fun y => apx_takes ks _ fun ys => hK _
theorem apx_take {R : Type} (kd : KD) (v : V) {K : Nat → V → Option R} {K' : V → Option R} (hK : ∀ x, Apx (fun k => K k x) (K' x)) : Apx (fun k => kd.take v (K k)) (kd.take v K') := by
  cases kd <;> simp only [KD.take] <;> first | exact hK _ | exact .cbind fun _ => apx_take0 _ _ fun _ => hK _ | exact .cbind fun _ => apx_takes _ _ fun _ => hK _
theorem apx_lds {R : Type} (H : Heap) (i : Nat) {K : Nat → List C → Option R} {K' : List C → Option R} (hK : ∀ x, Apx (fun k => K k x) (K' x)) :
    ∀ (kds : List K0) (o : Nat), Apx (fun k => H.lds i o kds (K k)) (H.lds i o kds K')
  | [], o => hK []
  | kd :: kds, o => by
    simp only [Heap.lds]
    exact .cbind fun x => apx_take0 kd x fun y => apx_lds H i (fun xs => hK (y :: xs)) kds (o + 1)
theorem apx_place {R : Type} (e : Env) (x : X) {Kl Ko : Nat → Nat → Nat → Option R} {Kl' Ko' : Nat → Nat → Option R} (hl : ∀ p o, Apx (fun k => Kl k p o) (Kl' p o)) (ho : ∀ p o, Apx (fun k => Ko k p o) (Ko' p o)) :
    Apx (fun k => placeK e x (Kl k) (Ko k)) (placeK e x Kl' Ko') := by
  cases x with
  | t p =>
    simp only [placeK]
    split
    · exact hl _ _
    · exact hl _ _
    · exact .cbind fun _ => ho _ _
    · exact .const _
  | c v => simp only [placeK]; exact .cbind fun _ => ho _ _
  | f g => exact .const _

section
variable {R : Type} {lim : Nat} {call : Nat → CallT} {call' : CallT} (hcall : ∀ f vs H, Apx (fun k => call k f vs H) (call' f vs H))
include hcall
theorem apx_op (e : Env) (H : Heap) (o : ROp) {K : Nat → T → Heap → Option R} {K' : T → Heap → Option R} (hK : ∀ t H, Apx (fun k => K k t H) (K' t H)) :
    Apx (fun k => evalOp lim (call k) e H o (K k)) (evalOp lim call' e H o K') := by
  cases o <;> simp only [evalOp] <;>
    repeat' first
    | exact hK _ _
    | exact Apx.const _
    | exact hcall _ _ _
    | refine Apx.ite ?_ ?_
    | refine Apx.cbind fun _ => ?_
    | refine Apx.bind (hcall _ _ _) fun _ => ?_
    | (refine apx_lds _ _ ?_ _ _; intro _)
    | (refine apx_take0 _ _ ?_; intro _)
    | (refine apx_take _ _ ?_; intro _)
    | refine apx_place _ _ (fun _ _ => ?_) (fun _ _ => ?_)
    | split

theorem apx_ops : ∀ (o : Ops) {R : Type} (e : Env) (H : Heap) {K : Nat → Env → Heap → Option R} {K' : Env → Heap → Option R} (_ : ∀ e H, Apx (fun k => K k e H) (K' e H)),
    Apx (fun k => runOps lim (call k) o e H (K k)) (runOps lim call' o e H K')
  | .nil, _, e, H, _, _, hK => hK e H
  | .op d o r, _, e, H, _, _, hK => by
    simp only [runOps]
    exact apx_op hcall e H o fun t H' => apx_ops r _ _ hK
  | .lbox n p x r, _, e, H, _, _, hK => by
    simp only [runOps]
    exact .cbind fun v => .cbind fun xs => .ite (apx_ops r _ _ hK) (.const _)
  | .lnew p z r, _, e, H, _, _, hK => by
    simp only [runOps]
    exact apx_ops r _ _ hK
  | .st hp n a x r, _, e, H, _, _, hK => by
    simp only [runOps]
    exact .cbind fun v => .cbind fun xs => .ite (.const _) (apx_place _ _ (fun p o => .ite (.const _) (.cbind fun cs => .ite (apx_ops r _ _ hK) (.const _))) (fun i o => .cbind fun H' => apx_ops r _ _ hK))
  | .logic and c inner keep d r, _, e, H, _, _, hK => by
    simp only [runOps]
    exact .cbind fun b => .bind (.ite (apx_ops inner _ _ fun e' H' => .const _) (.const _)) fun _ => apx_ops r _ _ hK
end

section
variable {lim : Nat} {call : Nat → CallT} {call' : CallT} {jump : Nat → Nat → Env → Heap → Rs} {jump' : Nat → Env → Heap → Rs} {fin : Env → Heap → Rs}
  (hcall : ∀ f vs H, Apx (fun k => call k f vs H) (call' f vs H)) (hjump : ∀ l e H, Apx (fun k => jump k l e H) (jump' l e H))

theorem apx_join (hjump : ∀ l e H, Apx (fun k => jump k l e H) (jump' l e H)) (j : Option (Nat × List Nat)) {K : Nat → KT} {K' : KT} (hK : ∀ fl e H, Apx (fun k => K k fl e H) (K' fl e H)) (fl : Flow) (e : Env) (H : Heap) :
    Apx (fun k => joinK (jump k) j (K k) fl e H) (joinK jump' j K' fl e H) := by
  cases j with
  | none => exact hK _ _ _
  | some x =>
    cases fl with
    | normal => exact hjump _ _ _
    | exit id => exact hK _ _ _
theorem apx_loop (hjump : ∀ l e H, Apx (fun k => jump k l e H) (jump' l e H)) (l : Nat) (dead : List Nat) {K : Nat → KT} {K' : KT} (hK : ∀ fl e H, Apx (fun k => K k fl e H) (K' fl e H)) (fl : Flow) (e : Env) (H : Heap) :
    Apx (fun k => loopK (jump k) l dead (K k) fl e H) (loopK jump' l dead K' fl e H) := by
  cases fl with
  | normal => exact hjump _ _ _
  | exit id => exact hK _ _ _
theorem apx_block (id : Nat) {K : Nat → KT} {K' : KT} (hK : ∀ fl e H, Apx (fun k => K k fl e H) (K' fl e H)) (fl : Flow) (e : Env) (H : Heap) :
    Apx (fun k => blockK id (K k) fl e H) (blockK id K' fl e H) := by
  cases fl with
  | normal => exact hK _ _ _
  | exit i => exact Apx.ite (hK _ _ _) (hK _ _ _)

include hcall hjump
theorem apx_exec : ∀ (c : RC) (e : Env) (H : Heap) {K : Nat → KT} {K' : KT} (_ : ∀ fl e H, Apx (fun k => K k fl e H) (K' fl e H)),
    Apx (fun k => exec lim (call k) (jump k) fin c e H (K k)) (exec lim call' jump' fin c e H K')
  | .skip, e, H, _, _, hK => hK _ _ _
  | .ops o, e, H, _, _, hK => by simp only [exec]; exact apx_ops hcall o e H fun e H => hK _ _ _
  | .dops _ _ _ o, e, H, _, _, hK => by simp only [exec]; exact .ite (apx_ops hcall o _ H fun e H => hK _ _ _) (.const _)
  | .seq a b, e, H, _, _, hK => by
    simp only [exec]
    refine apx_exec a e H fun fl e' H' => ?_
    cases fl with
    | normal => exact apx_exec b e' H' hK
    | exit id => exact hK _ _ _
  | .cond x a b j, e, H, _, _, hK => by
    simp only [exec]
    exact .cbind fun c => .ite (apx_exec a _ _ (apx_join hjump j hK)) (apx_exec b _ _ (apx_join hjump j hK))
  | .block id c, e, H, _, _, hK => by simp only [exec]; exact apx_exec c _ _ (apx_block id hK)
  | .loop l dead c, e, H, _, _, hK => by simp only [exec]; exact hjump _ _ _
  | .exit id, e, H, _, _, hK => hK _ _ _
  | .ret, e, H, _, _, hK => by simp only [exec]; exact .const _
  | .stuck, e, H, _, _, hK => by simp only [exec]; exact .const _

theorem apx_find (l : Nat) : ∀ (c : RC) {K : Nat → KT} {K' : KT} (_ : ∀ fl e H, Apx (fun k => K k fl e H) (K' fl e H)),
    (∃ (g : Nat → Env → Heap → Rs) (g' : Env → Heap → Rs), (∀ k, find lim (call k) (jump k) fin l c (K k) = some (g k)) ∧ find lim call' jump' fin l c K' = some g' ∧ ∀ e H, Apx (fun k => g k e H) (g' e H)) ∨
    ((∀ k, find lim (call k) (jump k) fin l c (K k) = none) ∧ find lim call' jump' fin l c K' = none)
  | .skip, _, _, hK => .inr ⟨fun _ => rfl, rfl⟩
  | .ops o, _, _, hK => .inr ⟨fun _ => rfl, rfl⟩
  | .dops _ _ _ o, _, _, hK => .inr ⟨fun _ => rfl, rfl⟩
  | .exit id, _, _, hK => .inr ⟨fun _ => rfl, rfl⟩
  | .ret, _, _, hK => .inr ⟨fun _ => rfl, rfl⟩
  | .stuck, _, _, hK => .inr ⟨fun _ => rfl, rfl⟩
  | .seq a b, K, K', hK => by
    have ha := apx_find l a (K := fun k => seqK (fun e' H' => exec lim (call k) (jump k) fin b e' H' (K k)) (K k))
      (K' := seqK (fun e' H' => exec lim call' jump' fin b e' H' K') K')
      (fun fl e H => by
        cases fl with
        | normal => exact apx_exec hcall hjump b e H hK
        | exit id => exact hK _ _ _)
    simp only [find]
    rcases ha with ⟨g, g', h1, h2, h3⟩ | ⟨h1, h2⟩
    · exact .inl ⟨g, g', fun k => by rw [h1]; rfl, by rw [h2]; rfl, h3⟩
    · rcases apx_find l b hK with ⟨g, g', h3, h4, h5⟩ | ⟨h3, h4⟩
      · exact .inl ⟨g, g', fun k => by rw [h1, h3]; rfl, by rw [h2, h4]; rfl, h5⟩
      · exact .inr ⟨fun k => by rw [h1, h3]; rfl, by rw [h2, h4]; rfl⟩
  | .cond x a b j, K, K', hK => by
    simp only [find]
    by_cases hj : j.map (·.1) = some l
    · simp only [hj, if_true]
      exact .inl ⟨_, _, fun k => rfl, rfl, fun e H => hK _ _ _⟩
    · simp only [hj, if_false]
      rcases apx_find l a (apx_join hjump j hK) with ⟨g, g', h1, h2, h3⟩ | ⟨h1, h2⟩
      · exact .inl ⟨g, g', fun k => by rw [h1]; rfl, by rw [h2]; rfl, h3⟩
      · rcases apx_find l b (apx_join hjump j hK) with ⟨g, g', h3, h4, h5⟩ | ⟨h3, h4⟩
        · exact .inl ⟨g, g', fun k => by rw [h1, h3]; rfl, by rw [h2, h4]; rfl, h5⟩
        · exact .inr ⟨fun k => by rw [h1, h3]; rfl, by rw [h2, h4]; rfl⟩
  | .block id c, K, K', hK => by simp only [find]; exact apx_find l c (apx_block id hK)
  | .loop l' dead c, K, K', hK => by
    simp only [find]
    by_cases hl : l' = l
    · simp only [hl, if_true]
      exact .inl ⟨_, _, fun k => rfl, rfl, fun e H => apx_exec hcall hjump c _ _ (apx_loop hjump l dead hK)⟩
    · simp only [hl, if_false]
      exact apx_find l c (apx_loop hjump l' dead hK)
end

theorem apx_step (ext : FuncId → Env → Heap → Rs) (prog : FuncId → Option RFunc) (lim : Nat) {r : Nat → RunT} {r' : RunT} (h : ∀ f l e H, Apx (fun k => r k f l e H) (r' f l e H)) (f l : Nat) (e : Env) (H : Heap) :
    Apx (fun k => stepR ext prog lim (r k) f l e H) (stepR ext prog lim r' f l e H) := by
  unfold stepR
  cases prog f with
  | none => exact .const _
  | some rf =>
    have hc : ∀ f vs H, Apx (fun k => callOf (r k) f vs H) (callOf r' f vs H) := fun f vs H => h _ _ _ _
    have hK : ∀ (fl : Flow) (e : Env) (H : Heap), Apx (fun _ : Nat => endK rf fl e H) (endK rf fl e H) := fun _ _ _ => .const _
    by_cases hl : l = 0
    · simp only [hl, if_true]
      exact apx_exec hc (h f) _ _ _ hK
    · simp only [hl, if_false]
      rcases apx_find (lim := lim) (fin := finish rf) hc (h f) l rf.body hK with ⟨g, g', h1, h2, h3⟩ | ⟨h1, h2⟩
      · rw [h2]
        refine ⟨fun k x hx => ?_, fun k x hx => ?_, fun x hx => ?_⟩
        · simp only [h1] at hx ⊢; exact (h3 e H).up k x hx
        · simp only [h1] at hx; exact (h3 e H).hi k x hx
        · obtain ⟨k, hk⟩ := (h3 e H).ex x hx
          exact ⟨k, by simp only [h1]; exact hk⟩
      · rw [h2]
        refine ⟨fun k x hx => ?_, fun k x hx => ?_, fun x hx => ?_⟩
        · simp only [h1] at hx; cases hx
        · simp only [h1] at hx; cases hx
        · cases hx

theorem runN_up (ext : FuncId → Env → Heap → Rs) (prog : FuncId → Option RFunc) (lim : Nat) : ∀ (k : Nat) (f l : Nat) (e : Env) (H : Heap) (x : V × Heap), runN ext prog lim k f l e H = some x → runN ext prog lim (k + 1) f l e H = some x
  | 0, _, _, _, _, _, h => by simp [runN] at h
  | k + 1, f, l, e, H, x, h => by
    have h2 : ∀ f l e H, Apx (fun j => (if j = 0 then runN ext prog lim k else runN ext prog lim (k + 1)) f l e H) (runN ext prog lim (k + 1) f l e H) := fun f l e H => by
      have := Apx.two (runN_up ext prog lim k f l e H)
      refine ⟨fun j y hy => ?_, fun j y hy => ?_, fun y hy => ⟨1, by simpa using hy⟩⟩
      · have := this.up j y (by by_cases hj : j = 0 <;> simp_all)
        by_cases hj : j = 0 <;> simp_all
      · exact this.hi j y (by by_cases hj : j = 0 <;> simp_all)
    have := (apx_step ext prog lim h2 f l e H).hi 0 x (by simpa [runN] using h)
    simpa [runN] using this

theorem apx_run (ext : FuncId → Env → Heap → Rs) (prog : FuncId → Option RFunc) (lim : Nat) (f l : Nat) (e : Env) (H : Heap) : Apx (fun k => runN ext prog lim k f l e H) (run ext prog lim f l e H) := by
  have hle : ∀ (k m : Nat) x, k ≤ m → runN ext prog lim k f l e H = some x → runN ext prog lim m f l e H = some x := by
    intro k m x hkm hx
    obtain ⟨j, rfl⟩ := Nat.exists_eq_add_of_le hkm
    clear hkm
    induction j with
    | zero => exact hx
    | succ j ih => exact runN_up ext prog lim _ _ _ _ _ _ ih
  refine ⟨fun k x hx => runN_up ext prog lim k f l e H x hx, fun k x hx => ?_, fun x hx => ?_⟩
  · have he : ∃ k, (runN ext prog lim k f l e H).isSome := ⟨k, by simp [hx]⟩
    unfold run
    rw [dif_pos he]
    obtain ⟨y, hy⟩ := Option.isSome_iff_exists.1 he.choose_spec
    rw [hy]
    have h1 := hle _ _ _ (Nat.le_max_left k he.choose) hx
    have h2 := hle _ _ _ (Nat.le_max_right k he.choose) hy
    rw [h1] at h2
    exact h2.symm
  · unfold run at hx
    split at hx
    · exact ⟨_, hx⟩
    · cases hx

/-- THE EQUATION -/
theorem run_eq (ext : FuncId → Env → Heap → Rs) (prog : FuncId → Option RFunc) (lim : Nat) (f l : Nat) (e : Env) (H : Heap) : run ext prog lim f l e H = stepR ext prog lim (run ext prog lim) f l e H := by
  have h := apx_step ext prog lim (r := runN ext prog lim) (apx_run ext prog lim) f l e H
  exact (apx_run ext prog lim f l e H).shift.unique h
end Go.Proofs.Ytnnjklkfcleleaa.Vm
