/-
  A REGION THAT DRAWS ITS ORDER, with allocations that come early.
-/
import Derived.Test.YtnnjklkfcleleaaVn
namespace Go.Proofs.Ytnnjklkfcleleaa.Vm
open Go
set_option linter.unusedVariables false
set_option linter.unusedSimpArgs false
variable {lim : Nat} {P : Program}

theorem Agree.trans {S : List Nat} {a b c : Env} (h : Agree S a b) (k : Agree S b c) : Agree S a c := fun p hp => by
  obtain ⟨h1, h2⟩ := h p hp
  obtain ⟨k1, k2⟩ := k p hp
  exact ⟨k1.trans h1, fun q o hq => (k2 q o (h1.trans hq)).trans (h2 q o hq)⟩
theorem Agree.refl (S : List Nat) (e : Env) : Agree S e e := fun p hp => ⟨rfl, fun _ _ _ => rfl⟩

section
variable {call : CallT}
/-- a step leaves the free slots that it does not write -/
theorem step_keep {z : It} {e e1 : Env} {H H1 : Heap} {S : List Nat} (h : stepI lim call z e H = some (e1, H1)) (hf : Free e S) {p : Nat} (hp : p ∈ S) (hw : p ∉ z.a.writes) : e1[p]? = e[p]? := by
  by_cases ht : z.a.tame = true
  · obtain ⟨f, rfl, hd⟩ := stepI_does ht h
    exact sets_get fun h => hw (hd.slots p h)
  · obtain ⟨i, g, a⟩ := z
    cases a with
    | st hp' n b x =>
      have stp : ∀ {e1 H1}, stepA lim call (.st hp' n b x) e H = some (e1, H1) → e1[p]? = e[p]? := by
        intro e1 H1 h
        simp only [stepA] at h
        obtain ⟨v, hv, h⟩ := Option.bind_eq_some_iff.1 h
        obtain ⟨xs, hxs, h⟩ := Option.bind_eq_some_iff.1 h
        split at h
        · cases h
        · rcases placeK_nat h with ⟨q, o, h, hroot, hn⟩ | ⟨j, o, h, hn⟩
          · split at h
            · cases h
            · obtain ⟨cs, hcs, h⟩ := Option.bind_eq_some_iff.1 h
              split at h
              · cases h
                have hq := hf.rooted hroot
                rw [List.getElem?_set_ne (fun e' => hq (by rw [e']; exact hp))]
              · cases h
          · obtain ⟨H1, hst, h⟩ := Option.bind_eq_some_iff.1 h
            cases h; rfl
      cases g with
      | none => exact stp h
      | some y =>
        obtain ⟨c, want⟩ := y
        simp only [stepI] at h
        obtain ⟨b, hb, h⟩ := Option.bind_eq_some_iff.1 h
        split at h
        · exact stp h
        · cases h; rfl
    | _ => simp [At.tame] at ht

theorem step_agree {z : It} {e e1 : Env} {H H1 : Heap} {S W' : List Nat} (ht : z.a.tame = true) (h : stepI lim call z e H = some (e1, H1)) (hf : Free e W') (hw : ∀ p ∈ z.a.writes, p ∈ W') (hd : ∀ p ∈ z.a.writes, p ∉ S) : Agree S e e1 := by
  obtain ⟨f, rfl, hf2⟩ := stepI_does ht h
  exact agree_sets hf (fun p hp => hw p (hf2.slots p hp)) (fun p hp hpf => hd p (hf2.slots p hpf) hp)

theorem flat_agree {S : List Nat} {rest : List It} {r : Env × Heap} : ∀ {xs : List It} {e : Env} {H : Heap}, (∀ x ∈ xs, x.a.tame = true ∧ ∀ p ∈ x.a.writes, p ∉ S) → xs.Pairwise (fun a b => apartL a b = true) → (∀ x ∈ xs, ∀ z ∈ rest, apartL x z = true) →
    Free e (W (xs ++ rest)) → flat lim call (xs ++ rest) e H = some r → ∃ e1 H1, flat lim call rest e1 H1 = some r ∧ Agree S e e1
  | [], e, H, _, _, _, _, h => ⟨e, H, h, .refl _ _⟩
  | x :: xs, e, H, hs, hp, hz, hf, h => by
    simp only [List.cons_append, flat] at h
    obtain ⟨⟨e1, H1⟩, h1, h2⟩ := Option.bind_eq_some_iff.1 h
    rw [List.pairwise_cons] at hp
    have hlets : ∀ p ∈ x.a.lets, p ∉ W (xs ++ rest) := by
      intro p hpx hpw
      simp only [W, List.mem_flatMap] at hpw
      obtain ⟨z, hz1, hz2⟩ := hpw
      have hap : apartL x z = true := by
        rcases List.mem_append.1 hz1 with h | h
        · exact hp.1 z h
        · exact hz x (by simp) z h
      simp only [apartL, Bool.and_eq_true, List.all_eq_true, Bool.not_eq_true', List.contains_eq_mem, decide_eq_false_iff_not] at hap
      exact hap.1 p hpx hz2
    have hf1 : Free e1 (W (xs ++ rest)) := free_step h1 hf hlets fun p hp => by simp [W] at hp ⊢; exact .inr hp
    obtain ⟨e2, H2, h3, h4⟩ := flat_agree (fun y hy => hs y (by simp [hy])) hp.2 (fun y hy => hz y (by simp [hy])) hf1 h2
    exact ⟨e2, H2, h3, (step_agree (hs x (by simp)).1 h1 hf (fun p hp => by simp [W, hp]) (hs x (by simp)).2).trans h4⟩
end

/-! ### the static comparison -/
def At.allocs : At → Bool
  | .op (some _) o => o.allocs
  | _ => false
/-- x before y, not waited for: they may be exchanged, or y allocates and may come early -/
def pairOK (x y : It) : Bool :=
  swapOK x y || swapSt x y || (y.a.allocs && y.g.isNone && x.a.tame && x.a.writes.all (fun p => !y.reads.contains p && !y.a.writes.contains p) && y.a.writes.all (fun p => !x.reads.contains p))
def chkPre2 (ops : Array Oper) : List It → List It → Bool
  | _, [] => true
  | pre, y :: ys => (match ops[y.i]? with
    | some o => o.after.toList.all (fun ed => !Region.binds .any ed || pre.any (fun x => x.i == ed.on)) &&
      (List.range ops.size).all (fun k => !bef ops y.i k || o.after.toList.any (fun ed => Region.binds .any ed && (k == ed.on || bef ops ed.on k)))
    | none => false) && pre.all (fun x => (bef ops y.i x.i || pairOK x y) && apartL x y && !(x.i == y.i) &&
      (!x.a.allocs || (x.a.writes.all (fun p => !y.a.writes.contains p))) && (!y.a.allocs || (y.a.writes.all (fun p => !x.a.writes.contains p)))) &&
    chkPre2 ops (pre ++ [y]) ys
theorem swapSt_op {x y : It} {d : Option Nat} {o : ROp} (h : swapSt x y = true) (hy : y.a = .op d o) : False := by
  unfold swapSt at h
  rw [hy] at h
  split at h
  · rename_i h4; cases h4
  · cases h
theorem swapSt_alloc {x y : It} {d : Option Nat} {o : ROp} (h : swapSt x y = true) (hx : x.a = .op d o) (ha : o.allocs = true) : False := by
  unfold swapSt at h
  rw [hx] at h
  split at h
  · rename_i h2 _ _; cases h2; simp [ROp.allocs] at ha
  · cases h
/-- who waits for an allocation waits for all that comes before it -/
def chkWait (ops : Array Oper) : List It → List It → Bool
  | _, [] => true
  | pre, x :: xs => (!x.a.allocs || x.g.isSome || xs.all (fun y => !bef ops y.i x.i || pre.all (fun u => bef ops y.i u.i))) && chkWait ops (pre ++ [x]) xs

def undone (done : Nat → Bool) (it : It) : Bool := !done it.i
/-- an allocation that Go has made and the machine has not -/
structure Pend (lim : Nat) (w0 : World) (φ : Phi) (ψ : Nat → Nat) (w : World) (e : Env) (a : Act) (b : Nat) (y : It) : Prop where
  ex : ∃ d o sz cs m, y.g = none ∧ y.a = .op (some d) o ∧ o.allocs = true ∧ allocOf e o = some (sz, cs, m) ∧ a.tmps[d]? = some (madeV b m) ∧ Priv lim φ w e ψ b cs ∧ (∀ n, m = some n → n * sz ≤ cs.length)
  low : w0.heap.size ≤ b
structure Inv (lim : Nat) (call : CallT) (ops : Array Oper) (its : List It) (φ0 : Phi) (w0 : World) (eF : Env) (HF : Heap) (listed : Array Bool) (done : Nat → Bool) (β : Nat → Nat) (a : Act) (w : World) (e : Env) (H : Heap) (φ : Phi) (ψ : Nat → Nat) : Prop where
  did : ∀ y ∈ its, done y.i = true → listed.getD y.i false = true
  pend : ∀ y ∈ its, done y.i = false → listed.getD y.i false = true → Pend lim w0 φ ψ w e a (β y.i) y ∧ ∀ us vs, its = us ++ y :: vs → ∀ x ∈ us, done x.i = false → bef ops y.i x.i = false
  inj : ∀ y ∈ its, ∀ z ∈ its, done y.i = false → done z.i = false → listed.getD y.i false = true → listed.getD z.i false = true → β y.i = β z.i → y.i = z.i
  run : flat lim call (its.filter (undone done)) e H = some (eF, HF)
  free : Free e (W (its.filter (undone done)))
  zero : ∀ y ∈ its, done y.i = false → ∀ d o, y.a = .op (some d) o → o.allocs = true → ∀ t, e[d]? = some t → t = .poison
  env : ERel lim w0.heap.size φ ψ e a.tmps w
  heap : HRel lim φ H w
  ext : Ext lim φ0 w0 φ w

theorem chkPre2_at {ops : Array Oper} : ∀ {its pre : List It}, chkPre2 ops pre its = true → ∀ {us vs : List It} {y : It}, its = us ++ y :: vs →
    (∃ o, ops[y.i]? = some o ∧ (∀ ed ∈ o.after, Region.binds .any ed = true → ∃ x ∈ pre ++ us, x.i = ed.on) ∧ (∀ k, k < ops.size → bef ops y.i k = true → ∃ ed ∈ o.after, Region.binds .any ed = true ∧ (k = ed.on ∨ bef ops ed.on k = true))) ∧
    ∀ x ∈ pre ++ us, (bef ops y.i x.i = true ∨ pairOK x y = true) ∧ apartL x y = true ∧ x.i ≠ y.i ∧ (x.a.allocs = true → ∀ p ∈ x.a.writes, p ∉ y.a.writes) ∧ (y.a.allocs = true → ∀ p ∈ y.a.writes, p ∉ x.a.writes) := by
  intro its
  induction its with
  | nil => intro pre h us vs y he; cases us <;> simp at he
  | cons z zs ih =>
    intro pre h us vs y he
    simp only [chkPre2, Bool.and_eq_true] at h
    obtain ⟨⟨h1, h2⟩, h3⟩ := h
    cases us with
    | nil =>
      simp only [List.nil_append, List.cons.injEq] at he
      obtain ⟨rfl, rfl⟩ := he
      simp only [List.append_nil]
      refine ⟨?_, fun x hx => ?_⟩
      · split at h1
        · rename_i o ho
          simp only [Bool.and_eq_true, List.all_eq_true, Bool.or_eq_true, Bool.not_eq_true', List.any_eq_true, beq_iff_eq, List.mem_range] at h1
          refine ⟨o, ho, fun ed hed hb => ?_, fun k hk hb => ?_⟩
          · rcases h1.1 ed (by simpa using hed) with h | h
            · rw [hb] at h; cases h
            · exact h
          · rcases h1.2 k hk with h | ⟨ed, hed, h⟩
            · rw [hb] at h; cases h
            · exact ⟨ed, by simpa using hed, h⟩
        · cases h1
      · have := List.all_eq_true.1 h2 x hx
        simp only [Bool.and_eq_true, Bool.or_eq_true, Bool.not_eq_true', beq_eq_false_iff_ne, List.all_eq_true, List.contains_eq_mem, decide_eq_false_iff_not] at this
        obtain ⟨⟨⟨⟨g1, g2⟩, g3⟩, g4⟩, g5⟩ := this
        exact ⟨g1, g2, g3, fun ha => (g4.resolve_left (by rw [ha]; simp)), fun ha => (g5.resolve_left (by rw [ha]; simp))⟩
    | cons u us =>
      simp only [List.cons_append, List.cons.injEq] at he
      obtain ⟨rfl, rfl⟩ := he
      have := ih h3 (us := us) (vs := vs) (y := y) rfl
      simpa using this

theorem filter_front {its : List It} {p : It → Bool} {y : It} {ys : List It} (h : its.filter p = y :: ys) : ∃ us vs, its = us ++ y :: vs ∧ (∀ x ∈ us, p x = false) ∧ p y = true ∧ ys = vs.filter p := by
  obtain ⟨us, vs, h1, h2, h3, h4⟩ := List.filter_eq_cons_iff.1 h
  exact ⟨us, vs, h1, fun x hx => by simpa using h2 x hx, h3, h4.symm⟩
def also (done : Nat → Bool) (i : Nat) : Nat → Bool := fun j => done j || j == i
theorem filter_also {its : List It} {done : Nat → Bool} {us vs : List It} {y : It} (he : its = us ++ y :: vs) (hne : ∀ x ∈ us ++ vs, x.i ≠ y.i) (hy : done y.i = false) :
    its.filter (undone done) = us.filter (undone done) ++ y :: vs.filter (undone done) ∧ its.filter (undone (also done y.i)) = us.filter (undone done) ++ vs.filter (undone done) := by
  have hs : ∀ x ∈ us ++ vs, undone (also done y.i) x = undone done x := fun x hx => by
    have := hne x hx
    simp [undone, also, this]
  constructor
  · rw [he, List.filter_append, List.filter_cons, if_pos (by simp [undone, hy])]
  · rw [he, List.filter_append, List.filter_cons, if_neg (by simp [undone, also])]
    congr 1
    · exact List.filter_congr fun x hx => hs x (by simp [hx])
    · exact List.filter_congr fun x hx => hs x (by simp [hx])

theorem pairs2 {ops : Array Oper} {its : List It} (h : chkPre2 ops [] its = true) : its.Pairwise (fun x y => apartL x y = true ∧ x.i ≠ y.i ∧ (bef ops y.i x.i = true ∨ pairOK x y = true) ∧ (x.a.allocs = true → ∀ p ∈ x.a.writes, p ∉ y.a.writes) ∧ (y.a.allocs = true → ∀ p ∈ y.a.writes, p ∉ x.a.writes)) := by
  have : ∀ (zs pre : List It), its = pre ++ zs → zs.Pairwise (fun x y => apartL x y = true ∧ x.i ≠ y.i ∧ (bef ops y.i x.i = true ∨ pairOK x y = true) ∧ (x.a.allocs = true → ∀ p ∈ x.a.writes, p ∉ y.a.writes) ∧ (y.a.allocs = true → ∀ p ∈ y.a.writes, p ∉ x.a.writes)) ∧
      ∀ x ∈ pre, ∀ y ∈ zs, apartL x y = true ∧ x.i ≠ y.i ∧ (bef ops y.i x.i = true ∨ pairOK x y = true) ∧ (x.a.allocs = true → ∀ p ∈ x.a.writes, p ∉ y.a.writes) ∧ (y.a.allocs = true → ∀ p ∈ y.a.writes, p ∉ x.a.writes) := by
    intro zs
    induction zs with
    | nil => intro pre _; exact ⟨.nil, fun x _ z hz => by simp at hz⟩
    | cons z zs ih =>
      intro pre he
      have h1 := chkPre2_at h (us := pre) (vs := zs) (y := z) he
      obtain ⟨h2, h3⟩ := ih (pre ++ [z]) (by simp [he])
      refine ⟨List.pairwise_cons.2 ⟨fun b hb => h3 z (by simp) b hb, h2⟩, fun x hx b hb => ?_⟩
      rcases List.mem_cons.1 hb with rfl | hb
      · have := h1.2 x (by simpa using hx)
        exact ⟨this.2.1, this.2.2.1, this.1, this.2.2.2.1, this.2.2.2.2⟩
      · exact h3 x (by simp [hx]) b hb
  exact (this its [] rfl).1

section
variable {call : CallT} {ops : Array Oper} {its : List It} {φ0 : Phi} {w0 : World} {eF : Env} {HF : Heap} {listed : Array Bool} {done : Nat → Bool} {β : Nat → Nat} {a : Act} {w : World} {e : Env} {H : Heap} {φ : Phi} {ψ : Nat → Nat}
theorem madeRel {φ : Phi} {i b n sz : Nat} {m : Option Nat} (hp : φ i = some ⟨b, 0, n, sz⟩) (hl : ∀ k, m = some k → k * sz ≤ n) : VRel lim φ (.c (madeC i m)) (madeV b m) := by
  cases m with
  | none => exact .c (by simpa [madeC, madeV] using CRel.ptr (lim := lim) (o := 0) hp)
  | some k => exact .c (.slice hp (Nat.le_refl _) (.inr rfl) (fun _ => .inr (by simpa using hl k rfl)))

theorem adopt_one (I : Inv lim call ops its φ0 w0 eF HF listed done β a w e H φ ψ) (hpre : chkPre2 ops [] its = true) {y : It} {ys : List It} (hfront : its.filter (undone done) = y :: ys) (hl : listed.getD y.i false = true) :
    ∃ e' H' φ', Inv lim call ops its φ0 w0 eF HF listed (also done y.i) β a w e' H' φ' ψ := by
  obtain ⟨us, vs, he, hus, hy, hys⟩ := filter_front hfront
  have hyi : y ∈ its := by rw [he]; simp
  have hyd : done y.i = false := by simpa [undone] using hy
  obtain ⟨⟨⟨d, o, sz, cs, m, hg, ha, hal, hao, htm, hpv, hlen⟩, hlow⟩, _⟩ := I.pend y hyi hyd hl
  have hP := pairs2 hpre
  rw [he] at hP
  rw [List.pairwise_append, List.pairwise_cons] at hP
  have hyal : y.a.allocs = true := by rw [ha]; exact hal
  have hyw : y.a.writes = [d] := by rw [ha]; rfl
  have hne : ∀ x ∈ us ++ vs, x.i ≠ y.i := fun x hx => by
    rcases List.mem_append.1 hx with hx | hx
    · exact (hP.2.2 x hx y (by simp)).2.1
    · exact fun e => (hP.2.1.1 x hx).2.1 e.symm
  obtain ⟨hf1, hf2⟩ := filter_also he hne hyd
  -- the machine makes it
  have hrun := I.run
  rw [hfront] at hrun
  simp only [flat] at hrun
  obtain ⟨⟨e1, H1⟩, h1, h2⟩ := Option.bind_eq_some_iff.1 hrun
  have h1' := h1
  simp only [stepI, hg, ha, stepA] at h1'
  obtain ⟨sz', cs', m', hao', h3⟩ := evalOp_alloc hal h1'
  rw [hao] at hao'; cases hao'
  cases h3
  obtain ⟨n, hn, hheap⟩ := adopt I.heap hpv.1 sz
  have hdW : d ∈ W (its.filter (undone done)) := by rw [hfront]; simp [W, hyw]
  have htl : ∀ c, T.val (.c (madeC H.next m)) ≠ .loc c := fun c h => by cases h
  have hset : e.setO (some d) (.val (.c (madeC H.next m))) = e.put d (.val (.c (madeC H.next m))) := (I.free.put hdW (fun q o ht => by cases ht)).symm
  have hlocs : ∀ (p : Nat) c, (e.setO (some d) (.val (.c (madeC H.next m))))[p]? = some (.loc c) → e[p]? = some (.loc c) := fun p c hp => by rw [hset] at hp; exact locs_put htl hp
  have hother : ∀ (p : Nat), p ≠ d → (e.setO (some d) (.val (.c (madeC H.next m))))[p]? = e[p]? := fun p hp => List.getElem?_set_ne (Ne.symm hp)
  have halso : ∀ {j}, also done y.i j = false → done j = false ∧ j ≠ y.i := fun {j} h => by simpa [also] using h
  have hmem : ∀ z ∈ its, z.i ≠ y.i → z ∈ us ∨ z ∈ vs := fun z hz hzy => by
    rw [he] at hz
    rcases List.mem_append.1 hz with h | h
    · exact .inl h
    · rcases List.mem_cons.1 h with rfl | h
      · exact absurd rfl hzy
      · exact .inr h
  have hafter : ∀ z ∈ its, done z.i = false → z.i ≠ y.i → z ∈ vs := fun z hz hzd hzy => (hmem z hz hzy).resolve_left fun h => by
    have := hus z h
    simp [undone, hzd] at this
  refine ⟨e.setO (some d) (.val (.c (madeC H.next m))), H.alloc (.cells sz cs), φ.add H.next ⟨β y.i, 0, n, sz⟩, ⟨?_, ?_, ?_, ?_, ?_, ?_, ?_, hheap, I.ext.adopt I.heap hlow⟩⟩
  · intro z hz hd
    simp only [also, Bool.or_eq_true, beq_iff_eq] at hd
    rcases hd with hd | hd
    · exact I.did z hz hd
    · rw [hd]; exact hl
  · intro z hz hzd hzl
    obtain ⟨hzd, hzy⟩ := halso hzd
    have hzv := hafter z hz hzd hzy
    obtain ⟨⟨⟨d2, o2, sz2, cs2, m2, g1, g2, g3, g4, g5, g6, g7⟩, g8⟩, g9⟩ := I.pend z hz hzd hzl
    have hpr := hP.2.1.1 z hzv
    have hnb : bef ops z.i y.i = false := by
      obtain ⟨vs1, vs2, hv⟩ := List.append_of_mem hzv
      exact g9 (us ++ y :: vs1) vs2 (by rw [he, hv]; simp) y (by simp) hyd
    have hzal : z.a.allocs = true := by rw [g2]; exact g3
    have hdr : d ∉ z.reads := by
      have := hpr.2.2.1.resolve_left (by rw [hnb]; simp)
      simp only [pairOK, swapOK, Bool.or_eq_true, Bool.and_eq_true, List.all_eq_true, Bool.not_eq_true', List.contains_eq_mem, decide_eq_false_iff_not] at this
      rcases this with (h | h) | h
      · exact (h.1.1.2 d (by simp [hyw])).1
      · exact (swapSt_op h g2).elim
      · exact (h.1.2 d (by simp [hyw])).1
    have hag : Agree o2.slots e (e.setO (some d) (.val (.c (madeC H.next m)))) := by
      intro p hp
      have hpd : p ≠ d := fun e' => hdr (by rw [← e']; simp [It.reads, g1, g2, At.reads]; exact hp)
      exact ⟨get_set_ne hpd, fun q o hq => get_set_ne fun e' => (I.free d hdW).2 p o (by rw [hq, e'])⟩
    refine ⟨⟨⟨d2, o2, sz2, cs2, m2, g1, g2, g3, by rw [allocOf_agree hag]; exact g4, g5, ⟨g6.1.adopt I.heap fun e' => hzy (I.inj z hz y hyi hzd hyd hzl hl e'), fun p c hp => g6.2 p c (hlocs p c hp)⟩, g7⟩, g8⟩, fun us2 vs2 h2 x hx hxd => g9 us2 vs2 h2 x hx (halso hxd).1⟩
  · intro z hz z2 hz2 hd1 hd2 hl1 hl2 hb
    exact I.inj z hz z2 hz2 (halso hd1).1 (halso hd2).1 hl1 hl2 hb
  · rw [hf2]
    have : us.filter (undone done) = [] := List.filter_eq_nil_iff.2 fun x hx => by rw [hus x hx]; simp
    rw [this, List.nil_append, ← hys]; exact h2
  · have hsub : ∀ p ∈ W (its.filter (undone (also done y.i))), p ∈ W (its.filter (undone done)) := fun p hp => by
      rw [hf2] at hp; rw [hf1]
      simp [W] at hp ⊢
      rcases hp with h | h <;> simp [h]
    exact (I.free.sub hsub).set (fun cs hc => by cases hc) (fun q o hq => by cases hq)
  · intro z hz hzd d2 o2 g2 g3 t ht
    obtain ⟨hzd, hzy⟩ := halso hzd
    have hzv := hafter z hz hzd hzy
    have hd2 : d2 ≠ d := fun e' => (hP.2.1.1 z hzv).2.2.2.1 hyal d (by simp [hyw]) (by rw [g2]; simp [At.writes, e'])
    rw [hother d2 hd2] at ht
    exact I.zero z hz hzd d2 o2 g2 g3 t ht
  · rw [hset]
    have h5 := I.env.adopt (n := n) (sz := sz) (b := β y.i) I.heap hpv.2
    have h6 := h5.put d (t := .val (.c (madeC H.next m))) (x := madeV (β y.i) m) (madeRel (Phi.add_same _ _ _) (fun k hk => by rw [← hn]; exact hlen k hk))
    have h7 : a.tmps.setIfInBounds d (madeV (β y.i) m) = a.tmps := by
      refine Array.ext_getElem? fun j => ?_
      rw [Array.getElem?_setIfInBounds]
      split
      · rename_i hj; subst hj
        split
        · exact htm.symm
        · rename_i hlt; rw [Array.getElem?_eq_none (by omega)]
      · rfl
    rwa [h7] at h6

/-- the machine makes all that is pending at the front -/
theorem adopt_all (hpre : chkPre2 ops [] its = true) : ∀ (n : Nat) (done : Nat → Bool) (e : Env) (H : Heap) (φ : Phi), (its.filter (undone done)).length = n → Inv lim call ops its φ0 w0 eF HF listed done β a w e H φ ψ →
    ∃ done' e' H' φ', Inv lim call ops its φ0 w0 eF HF listed done' β a w e' H' φ' ψ ∧ ∀ y ys, its.filter (undone done') = y :: ys → listed.getD y.i false = false := by
  intro n
  induction n with
  | zero =>
    intro done e H φ hn I
    have := List.eq_nil_of_length_eq_zero hn
    exact ⟨done, e, H, φ, I, fun y ys h => by rw [this] at h; cases h⟩
  | succ n ih =>
    intro done e H φ hn I
    cases hf : its.filter (undone done) with
    | nil => rw [hf] at hn; simp at hn
    | cons y ys =>
      cases hl : listed.getD y.i false with
      | false => exact ⟨done, e, H, φ, I, fun y' ys' h => by rw [hf] at h; cases h; exact hl⟩
      | true =>
        obtain ⟨e', H', φ', I'⟩ := adopt_one I hpre hf hl
        obtain ⟨us, vs, he, hus, hy, hys⟩ := filter_front hf
        have hP := pairs2 hpre
        rw [he] at hP
        rw [List.pairwise_append, List.pairwise_cons] at hP
        have hne : ∀ x ∈ us ++ vs, x.i ≠ y.i := fun x hx => by
          rcases List.mem_append.1 hx with hx | hx
          · exact (hP.2.2 x hx y (by simp)).2.1
          · exact fun e => (hP.2.1.1 x hx).2.1 e.symm
        obtain ⟨hf1, hf2⟩ := filter_also he hne (by simpa [undone] using hy)
        refine ih _ e' H' φ' ?_ I'
        rw [hf1] at hn; rw [hf2]; simp at hn ⊢; omega
end

/-! ### the whole region -/
def chkRow2 (P : Program) (ops : Array Oper) (its : List It) : Bool :=
  its.all (chkIt P ops) && its.length == ops.size && (List.range ops.size).all (fun k => its.any (fun x => x.i == k)) && chkPre2 ops [] its && chkWait ops [] its

theorem chkWait_at {ops : Array Oper} : ∀ {its pre : List It}, chkWait ops pre its = true → ∀ {us vs : List It} {x : It}, its = us ++ x :: vs → x.a.allocs = true → x.g.isSome = false → ∀ y ∈ vs, bef ops y.i x.i = true → ∀ u ∈ pre ++ us, bef ops y.i u.i = true := by
  intro its
  induction its with
  | nil => intro pre h us vs y he; cases us <;> simp at he
  | cons z zs ih =>
    intro pre h us vs x he ha hg y hy hb u hu
    simp only [chkWait, Bool.and_eq_true] at h
    cases us with
    | nil =>
      simp only [List.nil_append, List.cons.injEq] at he
      obtain ⟨rfl, rfl⟩ := he
      simp only [List.append_nil] at hu
      have h1 := h.1
      simp only [ha, hg, Bool.not_true, Bool.false_or, List.all_eq_true, Bool.or_eq_true, Bool.not_eq_true'] at h1
      rcases h1 y hy with h | h
      · rw [hb] at h; cases h
      · exact h u hu
    | cons v us =>
      simp only [List.cons_append, List.cons.injEq] at he
      obtain ⟨rfl, rfl⟩ := he
      exact ih h.2 (us := us) (vs := vs) (x := x) rfl ha hg y hy hb u (by simpa using hu)

section
variable {call : CallT} {ops : Array Oper} {its : List It} {φ0 : Phi} {w0 : World} {eF : Env} {HF : Heap} {listed : Array Bool} {done : Nat → Bool} {β : Nat → Nat} {a : Act} {w : World} {e : Env} {H : Heap} {φ : Phi} {ψ : Nat → Nat}

theorem step_len {z : It} {e e1 : Env} {H H1 : Heap} (h : stepI lim call z e H = some (e1, H1)) : e1.length = e.length := by
  by_cases ht : z.a.tame = true
  · obtain ⟨f, rfl, hd⟩ := stepI_does ht h
    exact sets_length
  · obtain ⟨i, g, a⟩ := z
    cases a with
    | st hp' n b x =>
      have stp : ∀ {e1 H1}, stepA lim call (.st hp' n b x) e H = some (e1, H1) → e1.length = e.length := by
        intro e1 H1 h
        simp only [stepA] at h
        obtain ⟨v, hv, h⟩ := Option.bind_eq_some_iff.1 h
        obtain ⟨xs, hxs, h⟩ := Option.bind_eq_some_iff.1 h
        split at h
        · cases h
        · rcases placeK_nat h with ⟨q, o, h, hroot, hn⟩ | ⟨j, o, h, hn⟩
          · split at h
            · cases h
            · obtain ⟨cs, hcs, h⟩ := Option.bind_eq_some_iff.1 h
              split at h
              · cases h; simp
              · cases h
          · obtain ⟨H1, hst, h⟩ := Option.bind_eq_some_iff.1 h
            cases h; rfl
      cases g with
      | none => exact stp h
      | some y =>
        obtain ⟨c, want⟩ := y
        simp only [stepI] at h
        obtain ⟨b, hb, h⟩ := Option.bind_eq_some_iff.1 h
        split at h
        · exact stp h
        · cases h; rfl
    | _ => simp [At.tame] at ht
theorem flat_len : ∀ {xs : List It} {e e2 : Env} {H H2 : Heap}, flat lim call xs e H = some (e2, H2) → e2.length = e.length
  | [], e, e2, H, H2, h => by simp only [flat] at h; cases h; rfl
  | x :: xs, e, e2, H, H2, h => by
    simp only [flat] at h
    obtain ⟨⟨e1, H1⟩, h1, h2⟩ := Option.bind_eq_some_iff.1 h
    exact (flat_len h2).trans (step_len h1)
/-- what is not done before a ready item does not come before it -/
theorem Inv.ready (I : Inv lim call ops its φ0 w0 eF HF listed done β a w e H φ ψ) (hwait : chkWait ops [] its = true)
    (hfront : ∀ y ys, its.filter (undone done) = y :: ys → listed.getD y.i false = false)
    {us vs : List It} {y : It} (heq : its = us ++ y :: vs) (hB : ∀ x ∈ its, bef ops y.i x.i = true → listed.getD x.i false = true) {x : It} (hx : x ∈ us) (hxd : done x.i = false) : bef ops y.i x.i = false := by
  cases hb : bef ops y.i x.i with
  | false => rfl
  | true =>
    exfalso
    have hxi : x ∈ its := by rw [heq]; simp [hx]
    obtain ⟨⟨⟨d, o, sz, cs, m, hg, ha, hal, _⟩, _⟩, _⟩ := I.pend x hxi hxd (hB x hxi hb)
    obtain ⟨us1, us2, hu⟩ := List.append_of_mem hx
    -- the front of what is not done
    cases hf : its.filter (undone done) with
    | nil => have : x ∈ its.filter (undone done) := List.mem_filter.2 ⟨hxi, by simp [undone, hxd]⟩; rw [hf] at this; cases this
    | cons f fs =>
      have hfl := hfront f fs hf
      obtain ⟨vs1, vs2, h1, h2, h3, h4⟩ := filter_front hf
      -- f is before x or is x
      have hmem : f = x ∨ f ∈ us1 := by
        have he2 : vs1 ++ f :: vs2 = us1 ++ x :: (us2 ++ y :: vs) := by rw [← h1, heq, hu]; simp
        rcases List.append_eq_append_iff.1 he2 with ⟨t, ht1, ht2⟩ | ⟨t, ht1, ht2⟩
        · cases t with
          | nil => simp at ht2; exact .inl ht2.1
          | cons t0 t => simp at ht2; exact .inr (by rw [ht1, ht2.1]; simp)
        · cases t with
          | nil => simp at ht2; exact .inl ht2.1.symm
          | cons t0 t =>
            simp at ht2
            exfalso
            have := h2 x (by rw [ht1, ht2.1]; simp)
            simp [undone, hxd] at this
      rcases hmem with rfl | hm
      · rw [hB f hxi hb] at hfl; cases hfl
      · have := chkWait_at hwait (us := us1) (vs := us2 ++ y :: vs) (x := x) (by rw [heq, hu]; simp) (by rw [ha]; exact hal) (by rw [hg]; rfl) y (by simp) hb f (by simpa using hm)
        rw [hB f (by rw [heq, hu]; simp [hm]) this] at hfl; cases hfl

theorem LocRel.push {φ : Phi} {w : World} {b : Nat} {cs : List C} (h : LocRel lim φ w b cs) (A : Array Value) (t : TypeId) : LocRel lim φ (w.alloc (.cells A t)) b cs := h.ext (Ext.push φ w A t)

/-- Go makes an allocation, the machine waits -/
theorem pend_step (I : Inv lim call ops its φ0 w0 eF HF listed done β a w e H φ ψ) (hpre : chkPre2 ops [] its = true) (hwait : chkWait ops [] its = true) (hits : ∀ it ∈ its, chkIt P ops it = true) (hsz : listed.size = ops.size) (hlen : ∀ z ∈ its, ∀ p ∈ z.a.writes, p < eF.length)
    (hfront : ∀ y ys, its.filter (undone done) = y :: ys → listed.getD y.i false = false)
    {us vs : List It} {y : It} (heq : its = us ++ y :: vs) (hB : ∀ x ∈ its, bef ops y.i x.i = true → listed.getD x.i false = true) (hnl : listed.getD y.i false = false)
    (hal : y.a.allocs = true) (hg : y.g = none) {Q : Exit → Act → World → Prop} {K : Act → World → Prop}
    (hK : ∀ a' w' β', a'.defers = a.defers → Inv lim call ops its φ0 w0 eF HF (listed.setIfInBounds y.i true) done β' a' w' e H φ ψ → K a' w') : wpOp P ops Q y.i K a w := by
  obtain ⟨d, o, ha, hoal⟩ : ∃ d o, y.a = .op (some d) o ∧ o.allocs = true := by
    cases hya : y.a with
    | op d o => cases d with
      | none => rw [hya] at hal; simp [At.allocs] at hal
      | some d => rw [hya] at hal; exact ⟨d, o, rfl, hal⟩
    | _ => rw [hya] at hal; simp [At.allocs] at hal
  have hyi : y ∈ its := by rw [heq]; simp
  have hyw : y.a.writes = [d] := by rw [ha]; rfl
  have hyd : done y.i = false := by
    cases h : done y.i with
    | false => rfl
    | true => rw [I.did y hyi h] at hnl; cases hnl
  have hP := pairs2 hpre
  have hP0 := hP
  rw [heq] at hP
  rw [List.pairwise_append, List.pairwise_cons] at hP
  have hne : ∀ x ∈ us ++ vs, x.i ≠ y.i := fun x hx => by
    rcases List.mem_append.1 hx with hx | hx
    · exact (hP.2.2 x hx y (by simp)).2.1
    · exact fun e => (hP.2.1.1 x hx).2.1 e.symm
  have hoth : ∀ z ∈ its, z.i ≠ y.i → z ∈ us ∨ z ∈ vs := fun z hz hzy => by
    rw [heq] at hz
    rcases List.mem_append.1 hz with h | h
    · exact .inl h
    · rcases List.mem_cons.1 h with rfl | h
      · exact absurd rfl hzy
      · exact .inr h
  have hsame : ∀ z ∈ its, z.i = y.i → z = y := fun z hz hzy => by
    rw [heq] at hz
    rcases List.mem_append.1 hz with h | h
    · exact absurd hzy (hne z (by simp [h]))
    · rcases List.mem_cons.1 h with rfl | h
      · rfl
      · exact absurd hzy (hne z (by simp [h]))
  obtain ⟨hf1, hf2⟩ := filter_also heq hne hyd
  -- what it makes at its place in the row, it makes now
  have hrun := I.run
  have hfree := I.free
  have hpw : (us.filter (undone done) ++ y :: vs.filter (undone done)).Pairwise (fun a b => apartL a b = true) := by
    rw [← hf1]; exact (hP0.imp fun h => h.1).filter _
  rw [List.pairwise_append, List.pairwise_cons] at hpw
  rw [hf1] at hrun hfree
  have hos : ∀ x ∈ us.filter (undone done), x.a.tame = true ∧ ∀ p ∈ x.a.writes, p ∉ o.slots := fun x hx => by
    obtain ⟨hxu, hxd⟩ := List.mem_filter.1 hx
    have hxd : done x.i = false := by simpa [undone] using hxd
    have hnb := I.ready hwait hfront heq hB hxu hxd
    have := (hP.2.2 x hxu y (by simp)).2.2.1.resolve_left (by rw [hnb]; simp)
    simp only [pairOK, swapOK, Bool.or_eq_true, Bool.and_eq_true, List.all_eq_true, Bool.not_eq_true', List.contains_eq_mem, decide_eq_false_iff_not] at this
    have hsl : ∀ p, p ∈ o.slots → p ∈ y.reads := fun p hp => by simp [It.reads, hg, ha, At.reads]; exact hp
    rcases this with (h | h) | h
    · exact ⟨h.1.1.1.1, fun p hp hps => (h.1.1.2 p hp).1 (hsl p hps)⟩
    · exact (swapSt_op h ha).elim
    · exact ⟨h.1.1.2, fun p hp hps => (h.1.2 p hp).1 (hsl p hps)⟩
  obtain ⟨e1, H1, hr1, hag⟩ := flat_agree (S := o.slots) hos hpw.1 (fun x hx z hz => hpw.2.2 x hx z hz) hfree hrun
  simp only [flat] at hr1
  obtain ⟨⟨e2, H2⟩, h1, h2⟩ := Option.bind_eq_some_iff.1 hr1
  simp only [stepI, hg, ha, stepA] at h1
  obtain ⟨sz, cs, m, hao, _⟩ := evalOp_alloc hoal h1
  rw [allocOf_agree hag] at hao
  have hci := hits y hyi
  unfold chkIt at hci
  split at hci
  rotate_left
  · cases hci
  rename_i op hop
  simp only [Bool.and_eq_true] at hci
  obtain ⟨⟨hat, hgm⟩, _⟩ := hci
  rw [ha] at hat
  simp only [chkAt, Bool.and_eq_true, beq_iff_eq] at hat
  obtain ⟨hdst, hck⟩ := hat
  have hgn : op.guard = none := by
    rw [hg] at hgm
    cases hog : op.guard with
    | none => rfl
    | some y => rw [hog] at hgm; simp [gmatch] at hgm
  obtain ⟨A, el, hex, hA, hmlen⟩ := alloc_sound hck I.env I.heap hao
  have hylt : y.i < listed.size := by rw [hsz]; exact (Array.getElem?_eq_some_iff.1 hop).1
  have hzero := I.zero y hyi hyd d o ha hoal
  have hlow := I.ext.size
  have hnew : Priv lim φ (w.alloc (.cells A el)) e ψ w.heap.size cs := by
    refine ⟨⟨⟨A, el, by show (w.heap.push _)[w.heap.size]? = _; simp, hA⟩, fun j p hp e' => ?_⟩, fun p c hp e' => ?_⟩
    · have := I.heap.bound j p hp; omega
    · obtain ⟨x, hx, hr⟩ := I.env.tmp p _ hp
      have := hr.2.lt; omega
  have hl2 : ∀ z ∈ its, (listed.setIfInBounds y.i true).getD z.i false = true → z.i ≠ y.i → listed.getD z.i false = true := fun z hz h hzy => by
    rwa [getD_set_ne false (Ne.symm hzy)] at h
  unfold wpOp
  simp only [hop]
  rw [if_pos (by simp [Region.wanted, hgn])]
  left
  refine wp_of_run hex ?_
  rw [hdst]
  refine hK _ _ (fun j => if j = y.i then w.heap.size else β j) (put_defers _ _ _) ⟨?_, ?_, ?_, I.run, I.free, I.zero, ?_, I.heap.push _, ?_⟩
  · intro z hz hzd
    exact getD_set_true (I.did z hz hzd)
  · intro z hz hzd hzl
    by_cases hzy : z.i = y.i
    · have := hsame z hz hzy; subst this
      have hde := I.env.len
      have hdlt : d < a.tmps.size := by
        rw [← hde, ← flat_len I.run]
        exact hlen z hz d (by simp [hyw])
      refine ⟨⟨⟨d, o, sz, cs, m, hg, ha, hoal, hao, by simp [Act.put, hdlt], by simpa using hnew, hmlen⟩, by simpa using hlow⟩, fun us2 vs2 h2 x hx hxd => I.ready hwait hfront h2 hB hx hxd⟩
    · have hzl' := hl2 z hz hzl hzy
      obtain ⟨⟨⟨d2, o2, sz2, cs2, m2, g1, g2, g3, g4, g5, g6, g7⟩, g8⟩, g9⟩ := I.pend z hz hzd hzl'
      have hd2 : d2 ≠ d := fun e' => by
        have hzw : d2 ∈ z.a.writes := by rw [g2]; simp [At.writes]
        rcases hoth z hz hzy with h | h
        · exact (hP.2.2 z h y (by simp)).2.2.2.2 hal d (by simp [hyw]) (by rw [← e']; exact hzw)
        · exact (hP.2.1.1 z h).2.2.2.1 hal d (by simp [hyw]) (by rw [← e']; exact hzw)
      simp only [hzy, if_false]
      refine ⟨⟨⟨d2, o2, sz2, cs2, m2, g1, g2, g3, g4, by simp [Act.put, Array.getElem?_setIfInBounds, Ne.symm hd2]; exact g5, ⟨g6.1.push _ _, g6.2⟩, g7⟩, g8⟩, g9⟩
  · intro z hz z2 hz2 hd1 hd2 hl1 hl2' hb
    by_cases hzy : z.i = y.i <;> by_cases hzy2 : z2.i = y.i
    · rw [hzy, hzy2]
    · exfalso
      simp only [hzy, hzy2, if_true, if_false] at hb
      obtain ⟨⟨⟨d2, o2, sz2, cs2, m2, g1, g2, g3, g4, g5, g6, g7⟩, g8⟩, g9⟩ := I.pend z2 hz2 hd2 (hl2 z2 hz2 hl2' hzy2)
      have := g6.1.lt; omega
    · exfalso
      simp only [hzy, hzy2, if_true, if_false] at hb
      obtain ⟨⟨⟨d2, o2, sz2, cs2, m2, g1, g2, g3, g4, g5, g6, g7⟩, g8⟩, g9⟩ := I.pend z hz hd1 (hl2 z hz hl1 hzy)
      have := g6.1.lt; omega
    · simp only [hzy, hzy2, if_false] at hb
      exact I.inj z hz z2 hz2 hd1 hd2 (hl2 z hz hl1 hzy) (hl2 z2 hz2 hl2' hzy2) hb
  · exact (I.env.ext (Ext.push φ w _ _)).any d hzero _
  · exact I.ext.trans (Ext.push φ w _ _)

/-- Go and the machine do the same -/
theorem pull_step (hcall : CallOK lim P call) (I : Inv lim call ops its φ0 w0 eF HF listed done β a w e H φ ψ) (hpre : chkPre2 ops [] its = true) (hwait : chkWait ops [] its = true) (hits : ∀ it ∈ its, chkIt P ops it = true) (hsz : listed.size = ops.size)
    (hfront : ∀ y ys, its.filter (undone done) = y :: ys → listed.getD y.i false = false)
    {us vs : List It} {y : It} (heq : its = us ++ y :: vs) (hB : ∀ x ∈ its, bef ops y.i x.i = true → listed.getD x.i false = true) (hnl : listed.getD y.i false = false)
    (hnp : ¬ (y.a.allocs = true ∧ y.g = none)) {Q : Exit → Act → World → Prop} {K : Act → World → Prop}
    (hK : ∀ a' w' e' H' φ' ψ', a'.defers = a.defers → Inv lim call ops its φ0 w0 eF HF (listed.setIfInBounds y.i true) (also done y.i) β a' w' e' H' φ' ψ' → K a' w') : wpOp P ops Q y.i K a w := by
  have hyi : y ∈ its := by rw [heq]; simp
  have hyd : done y.i = false := by
    cases h : done y.i with
    | false => rfl
    | true => rw [I.did y hyi h] at hnl; cases hnl
  have hP := pairs2 hpre
  have hP0 := hP
  rw [heq] at hP
  rw [List.pairwise_append, List.pairwise_cons] at hP
  have hne : ∀ x ∈ us ++ vs, x.i ≠ y.i := fun x hx => by
    rcases List.mem_append.1 hx with hx | hx
    · exact (hP.2.2 x hx y (by simp)).2.1
    · exact fun e => (hP.2.1.1 x hx).2.1 e.symm
  have hoth : ∀ z ∈ its, z.i ≠ y.i → z ∈ us ∨ z ∈ vs := fun z hz hzy => by
    rw [heq] at hz
    rcases List.mem_append.1 hz with h | h
    · exact .inl h
    · rcases List.mem_cons.1 h with rfl | h
      · exact absurd rfl hzy
      · exact .inr h
  obtain ⟨hf1, hf2⟩ := filter_also heq hne hyd
  have hrun := I.run
  have hfree := I.free
  have hpw : (us.filter (undone done) ++ y :: vs.filter (undone done)).Pairwise (fun a b => apartL a b = true) := by
    rw [← hf1]; exact (hP0.imp fun h => h.1).filter _
  rw [List.pairwise_append, List.pairwise_cons] at hpw
  rw [hf1] at hrun hfree
  have hnoal : y.a.allocs = true → y.g.isNone = true → False := fun h1 h2 => hnp ⟨h1, by simpa using h2⟩
  have hsw : ∀ x ∈ us, done x.i = false → swapOK x y = true ∨ swapSt x y = true := fun x hxu hxd => by
    have hnb := I.ready hwait hfront heq hB hxu hxd
    have := (hP.2.2 x hxu y (by simp)).2.2.1.resolve_left (by rw [hnb]; simp)
    simp only [pairOK, Bool.or_eq_true, Bool.and_eq_true] at this
    exact this.resolve_right fun h => hnoal h.1.1.1.1 h.1.1.1.2
  obtain ⟨e1, H1, h1, h2⟩ := pull (fun x hx => by
      obtain ⟨hxu, hxd⟩ := List.mem_filter.1 hx
      exact hsw x hxu (by simpa [undone] using hxd))
    (fun x hx => hpw.2.2 x hx y (by simp)) hpw.1 (fun x hx z hz => hpw.2.2 x hx z (by simp [hz])) hfree hrun
  have hWy : ∀ p ∈ y.a.writes, p ∈ W (us.filter (undone done) ++ y :: vs.filter (undone done)) := fun p hp => by simp [W, hp]
  refine item_sound hcall (hits y hyi) I.env I.heap I.ext hfree hWy h1 fun a' w' φ' ψ' he' hH' hx' hd' hot hpv => ?_
  have hylt : y.i < listed.size := by
    have hci := hits y hyi
    unfold chkIt at hci
    split at hci
    · rename_i op hop; rw [hsz]; exact (Array.getElem?_eq_some_iff.1 hop).1
    · cases hci
  have halso : ∀ {j}, also done y.i j = false → done j = false ∧ j ≠ y.i := fun {j} h => by simpa [also] using h
  have hl2 : ∀ z ∈ its, (listed.setIfInBounds y.i true).getD z.i false = true → z.i ≠ y.i → listed.getD z.i false = true := fun z hz h hzy => by
    rwa [getD_set_ne false (Ne.symm hzy)] at h
  -- the pending ones stay as they are
  have hpendy : ∀ z ∈ its, z.i ≠ y.i → done z.i = false → listed.getD z.i false = true → y.a.tame = true ∧ ∀ p ∈ y.a.writes, p ∉ z.reads := fun z hz hzy hzd hzl => by
    obtain ⟨⟨⟨d2, o2, sz2, cs2, m2, g1, g2, g3, g4, g5, g6, g7⟩, g8⟩, g9⟩ := I.pend z hz hzd hzl
    rcases hoth z hz hzy with h | h
    · have := (hsw z h hzd).resolve_right fun h => swapSt_alloc h g2 g3
      simp only [swapOK, Bool.and_eq_true, List.all_eq_true, Bool.not_eq_true', List.contains_eq_mem, decide_eq_false_iff_not] at this
      exact ⟨this.1.1.1.2, fun p hp => this.1.2 p hp⟩
    · obtain ⟨vs1, vs2, hv⟩ := List.append_of_mem h
      have hnb : bef ops z.i y.i = false := g9 (us ++ y :: vs1) vs2 (by rw [heq, hv]; simp) y (by simp) hyd
      have := (hP.2.1.1 z h).2.2.1.resolve_left (by rw [hnb]; simp)
      simp only [pairOK, swapOK, Bool.or_eq_true, Bool.and_eq_true, List.all_eq_true, Bool.not_eq_true', List.contains_eq_mem, decide_eq_false_iff_not] at this
      rcases this with (h | h) | h
      · exact ⟨h.1.1.1.1, fun p hp => (h.1.1.2 p hp).1⟩
      · exact (swapSt_op h g2).elim
      · exact ⟨h.1.1.2, fun p hp => (h.1.2 p hp).1⟩
  have hapart : ∀ z ∈ its, z.i ≠ y.i → (y.a.allocs = true ∨ z.a.allocs = true) → ∀ p ∈ z.a.writes, p ∉ y.a.writes := fun z hz hzy hal p hp hpy => by
    rcases hoth z hz hzy with h | h
    · have := hP.2.2 z h y (by simp)
      rcases hal with hal | hal
      · exact this.2.2.2.2 hal p hpy hp
      · exact this.2.2.2.1 hal p hp hpy
    · have := hP.2.1.1 z h
      rcases hal with hal | hal
      · exact this.2.2.2.1 hal p hpy hp
      · exact this.2.2.2.2 hal p hp hpy
  refine hK a' w' e1 H1 φ' ψ' hd' ⟨?_, ?_, ?_, ?_, ?_, ?_, he', hH', hx'⟩
  · intro z hz hzd
    simp only [also, Bool.or_eq_true, beq_iff_eq] at hzd
    rcases hzd with h | h
    · exact getD_set_true (I.did z hz h)
    · rw [h, Array.getD_eq_getD_getElem?, Array.getElem?_setIfInBounds]; simp [hylt]
  · intro z hz hzd hzl
    obtain ⟨hzd, hzy⟩ := halso hzd
    have hzl' := hl2 z hz hzl hzy
    obtain ⟨ht, hdis⟩ := hpendy z hz hzy hzd hzl'
    obtain ⟨⟨⟨d2, o2, sz2, cs2, m2, g1, g2, g3, g4, g5, g6, g7⟩, g8⟩, g9⟩ := I.pend z hz hzd hzl'
    have hag : Agree o2.slots e e1 := step_agree ht h1 hfree hWy fun p hp hps => hdis p hp (by simp [It.reads, g1, g2, At.reads]; exact hps)
    have hd2 : d2 ∉ y.a.writes := hapart z hz hzy (.inr (by rw [g2]; exact g3)) d2 (by rw [g2]; simp [At.writes])
    exact ⟨⟨⟨d2, o2, sz2, cs2, m2, g1, g2, g3, by rw [allocOf_agree hag]; exact g4, by rw [hot d2 hd2]; exact g5, hpv _ _ g6, g7⟩, g8⟩, fun us2 vs2 h2 x hx hxd => g9 us2 vs2 h2 x hx (halso hxd).1⟩
  · intro z hz z2 hz2 hd1 hd2 hl1 hl2' hb
    exact I.inj z hz z2 hz2 (halso hd1).1 (halso hd2).1 (hl2 z hz hl1 (halso hd1).2) (hl2 z2 hz2 hl2' (halso hd2).2) hb
  · rw [hf2]; exact h2
  · rw [hf2]
    refine free_step h1 hfree (fun p hp hpw2 => ?_) fun p hp => by simp [W] at hp ⊢; rcases hp with h | h <;> simp [h]
    simp only [W, List.mem_flatMap, List.mem_append] at hpw2
    obtain ⟨z, hz, hpz⟩ := hpw2
    have hap : ∀ p ∈ y.a.lets, p ∉ z.a.writes := by
      rcases hz with hz | hz
      · have := hpw.2.2 z hz y (by simp)
        simp only [apartL, Bool.and_eq_true, List.all_eq_true, Bool.not_eq_true', List.contains_eq_mem, decide_eq_false_iff_not] at this
        exact this.2
      · have := hpw.2.1.1 z hz
        simp only [apartL, Bool.and_eq_true, List.all_eq_true, Bool.not_eq_true', List.contains_eq_mem, decide_eq_false_iff_not] at this
        exact this.1
    exact hap p hp hpz
  · intro z hz hzd d2 o2 g2 g3 t ht
    obtain ⟨hzd, hzy⟩ := halso hzd
    have hzw : d2 ∈ z.a.writes := by rw [g2]; simp [At.writes]
    have hd2 : d2 ∉ y.a.writes := hapart z hz hzy (.inr (by rw [g2]; exact g3)) d2 hzw
    have hin : d2 ∈ W (us.filter (undone done) ++ y :: vs.filter (undone done)) := by
      rw [← hf1]
      simp only [W, List.mem_flatMap]
      exact ⟨z, List.mem_filter.2 ⟨hz, by simp [undone, hzd]⟩, hzw⟩
    rw [step_keep h1 hfree hin hd2] at ht
    exact I.zero z hz hzd d2 o2 g2 g3 t ht

def unl2 (listed : Array Bool) (it : It) : Bool := !listed.getD it.i true
theorem draw_any2 (hcall : CallOK lim P call) {Q : Exit → Act → World → Prop} (hrow : chkRow2 P ops its = true) {d0 : List Deferred} (hlen : ∀ z ∈ its, ∀ p ∈ z.a.writes, p < eF.length)
    (fin : ∀ a w φ ψ, ERel lim w0.heap.size φ ψ eF a.tmps w → HRel lim φ HF w → Ext lim φ0 w0 φ w → a.defers = d0 → Q .normal a w) :
    ∀ (fuel : Nat) (listed : Array Bool) (done : Nat → Bool) (β : Nat → Nat) (a : Act) (w : World) (e : Env) (H : Heap) (φ : Phi) (ψ : Nat → Nat), listed.size = ops.size → (its.filter (unl listed)).length = fuel →
      (∀ i k, k < ops.size → listed.getD i false = true → bef ops i k = true → listed.getD k false = true) → Inv lim call ops its φ0 w0 eF HF listed done β a w e H φ ψ →
      (∀ y ys, its.filter (undone done) = y :: ys → listed.getD y.i false = false) → a.defers = d0 → wpAny P .any ops Q fuel listed a w := by
  simp only [chkRow2, Bool.and_eq_true, List.all_eq_true, List.any_eq_true, List.mem_range, beq_iff_eq] at hrow
  obtain ⟨⟨⟨⟨hits, hlen'⟩, hfull⟩, hpre⟩, hwait⟩ := hrow
  have hpairs := pairs2 hpre
  have hsize : ∀ it ∈ its, it.i < ops.size := fun it hit => by
    have := hits it hit
    unfold chkIt at this
    split at this
    · rename_i o ho; exact (Array.getElem?_eq_some_iff.1 ho).1
    · cases this
  intro fuel
  induction fuel with
  | zero =>
    intro listed done β a w e H φ ψ hsz hfl hdc I hfront hd
    have hnil := List.eq_nil_of_length_eq_zero hfl
    have hall : ∀ it ∈ its, listed.getD it.i false = true := fun it hit => by
      cases h : listed.getD it.i false with
      | true => rfl
      | false =>
        have hlt := hsize it hit
        have : it ∈ its.filter (unl listed) := List.mem_filter.2 ⟨hit, by
          rw [Array.getD_eq_getD_getElem?, Array.getElem?_eq_getElem (by omega)] at h
          simp only [unl, Array.getD_eq_getD_getElem?]
          rw [Array.getElem?_eq_getElem (by omega)]
          simp only [Option.getD_some] at h ⊢
          rw [h]; rfl⟩
        rw [hnil] at this; cases this
    refine ⟨?_, ?_⟩
    · cases hr : Region.ready .any ops listed with
      | nil => rfl
      | cons i is =>
        exfalso
        have hi : i ∈ Region.ready .any ops listed := by rw [hr]; simp
        obtain ⟨h0, o, ho, _⟩ := mem_ready.1 hi
        obtain ⟨it, hit, rfl⟩ := hfull i (Array.getElem?_eq_some_iff.1 ho).1
        have : it ∈ its.filter (unl listed) := List.mem_filter.2 ⟨hit, by simp [unl, h0]⟩
        rw [hnil] at this; cases this
    · have hr := I.run
      cases hf : its.filter (undone done) with
      | nil =>
        rw [hf] at hr
        simp only [flat] at hr
        cases hr
        exact fin a w φ ψ I.env I.heap I.ext hd
      | cons y ys =>
        exfalso
        have h1 := hfront y ys hf
        obtain ⟨us, vs, heq, _⟩ := filter_front hf
        rw [hall y (by rw [heq]; simp)] at h1; cases h1
  | succ fuel ih =>
    intro listed done β a w e H φ ψ hsz hfl hdc I hfront hd
    have hlisted : ∀ it ∈ its, listed.getD it.i false = true ∨ unl listed it = true := fun it hit => by
      have := hsize it hit
      simp only [unl, Array.getD_eq_getD_getElem?]
      rw [Array.getElem?_eq_getElem (by omega)]
      simp only [Option.getD_some]
      cases listed[it.i] <;> simp
    refine ⟨fun hr => ?_, fun i hi => ?_⟩
    · exfalso
      cases hfs : its.filter (unl listed) with
      | nil => rw [hfs] at hfl; simp at hfl
      | cons y ys =>
        obtain ⟨us, vs, heq, hus, hy, _⟩ := List.filter_eq_cons_iff.1 hfs
        obtain ⟨⟨o, ho, haft, _⟩, _⟩ := chkPre2_at hpre heq
        have hyi : y ∈ its := by rw [heq]; simp
        have : y.i ∈ Region.ready .any ops listed := by
          refine mem_ready.2 ⟨by simpa [unl] using hy, o, ho, fun ed hed hb => ?_⟩
          obtain ⟨x, hxm, hxi⟩ := haft ed hed hb
          simp only [List.nil_append] at hxm
          rw [← hxi]
          exact (hlisted x (by rw [heq]; simp [hxm])).resolve_right (fun h => hus x hxm h)
        rw [hr] at this; cases this
    · obtain ⟨h0, o, ho, haft⟩ := mem_ready.1 hi
      obtain ⟨y, hy, rfl⟩ := hfull i (Array.getElem?_eq_some_iff.1 ho).1
      obtain ⟨us, vs, heq⟩ := List.append_of_mem hy
      obtain ⟨⟨o', ho', _, hclo⟩, hprev⟩ := chkPre2_at hpre heq
      have hoo : o' = o := by rw [ho] at ho'; exact (Option.some.inj ho').symm
      subst hoo
      simp only [List.nil_append] at hprev
      have hB : ∀ k, k < ops.size → bef ops y.i k = true → listed.getD k false = true := fun k hk hb => by
        obtain ⟨ed, hed, hbd, hor⟩ := hclo k hk hb
        have h1 := haft ed hed hbd
        rcases hor with rfl | h2
        · exact h1
        · exact hdc _ _ hk h1 h2
      have huy : unl listed y = true := by simp [unl, h0]
      have hnl : listed.getD y.i false = false := by
        have := hsize y hy
        rw [Array.getD_eq_getD_getElem?, Array.getElem?_eq_getElem (by omega)] at h0 ⊢
        simpa using h0
      have hne : ∀ x ∈ us ++ vs, x.i ≠ y.i := by
        rw [heq] at hpairs
        intro x hx
        rw [List.pairwise_append, List.pairwise_cons] at hpairs
        rcases List.mem_append.1 hx with hx | hx
        · exact (hpairs.2.2 x hx y (by simp)).2.1
        · exact fun e => (hpairs.2.1.1 x hx).2.1 e.symm
      have hsame : ∀ x ∈ us ++ vs, unl (listed.setIfInBounds y.i true) x = unl listed x := fun x hx => by
        simp only [unl]; rw [getD_set_ne true (Ne.symm (hne x hx))]
      have hself : unl (listed.setIfInBounds y.i true) y = false := by
        have := hsize y hy
        simp [unl, hsz, this]
      have hf1 : its.filter (unl listed) = us.filter (unl listed) ++ y :: vs.filter (unl listed) := by
        rw [heq, List.filter_append, List.filter_cons, if_pos huy]
      have hf2 : its.filter (unl (listed.setIfInBounds y.i true)) = us.filter (unl listed) ++ vs.filter (unl listed) := by
        rw [heq, List.filter_append, List.filter_cons, hself]
        simp only [Bool.false_eq_true, if_false]
        congr 1
        · exact List.filter_congr fun x hx => hsame x (by simp [hx])
        · exact List.filter_congr fun x hx => hsame x (by simp [hx])
      have hn1 : (its.filter (unl (listed.setIfInBounds y.i true))).length = fuel := by
        rw [hf1] at hfl; rw [hf2]; simp at hfl ⊢; omega
      have hdc1 : ∀ i k, k < ops.size → (listed.setIfInBounds y.i true).getD i false = true → bef ops i k = true → (listed.setIfInBounds y.i true).getD k false = true := by
        intro i k hk hli hb
        by_cases hiy : i = y.i
        · subst hiy
          exact getD_set_true (hB k hk hb)
        · rw [getD_set_ne false (Ne.symm hiy)] at hli
          exact getD_set_true (hdc i k hk hli hb)
      have next : ∀ a' w' e' H' φ' ψ' done' β', a'.defers = a.defers → Inv lim call ops its φ0 w0 eF HF (listed.setIfInBounds y.i true) done' β' a' w' e' H' φ' ψ' → wpAny P .any ops Q fuel (listed.setIfInBounds y.i true) a' w' := by
        intro a' w' e' H' φ' ψ' done' β' hd' I'
        obtain ⟨done2, e2, H2, φ2, I2, hfr⟩ := adopt_all hpre _ done' e' H' φ' rfl I'
        exact ih _ done2 β' a' w' e2 H2 φ2 ψ' (by simpa using hsz) hn1 hdc1 I2 hfr (hd'.trans hd)
      by_cases hp : y.a.allocs = true ∧ y.g = none
      · exact pend_step I hpre hwait hits hsz hlen hfront heq (fun x hx hb => hB _ (hsize x hx) hb) hnl hp.1 hp.2 fun a' w' β' hd' I' => next a' w' e H φ ψ done β' hd' I'
      · exact pull_step hcall I hpre hwait hits hsz hfront heq (fun x hx hb => hB _ (hsize x hx) hb) hnl hp fun a' w' e' H' φ' ψ' hd' I' => next a' w' e' H' φ' ψ' _ β hd' I'
end
end Go.Proofs.Ytnnjklkfcleleaa.Vm
