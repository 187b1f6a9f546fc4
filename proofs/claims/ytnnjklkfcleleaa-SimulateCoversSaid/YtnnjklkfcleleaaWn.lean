/-
  CHAPTER 20, plain lists: a search finds the least paths, by length and then in the order of the steps.
-/
import Derived.Test.YtnnjklkfcleleaaWm
namespace Go.Proofs.Ytnnjklkfcleleaa.R
open Go Go.Proofs.Ytnnjklkfcleleaa.Vm
set_option linter.unusedVariables false
set_option linter.unusedSimpArgs false

/-! ### the order of paths -/
def lx : List Int → List Int → Prop
  | [], _ => False
  | _ :: _, [] => False
  | x :: a, y :: b => x < y ∨ (x = y ∧ lx a b)
theorem lx_irrefl : ∀ a, ¬ lx a a
  | [], h => h
  | x :: a, h => by
    rcases h with h | ⟨_, h⟩
    · omega
    · exact lx_irrefl a h
theorem lx_trans : ∀ {a b c : List Int}, lx a b → lx b c → lx a c
  | [], _, _, h, _ => h.elim
  | _ :: _, [], _, h, _ => h.elim
  | _ :: _, _ :: _, [], _, h => h.elim
  | x :: a, y :: b, z :: c, h, k => by
    rcases h with h | ⟨rfl, h⟩ <;> rcases k with k | ⟨rfl, k⟩
    · exact .inl (by omega)
    · exact .inl h
    · exact .inl k
    · exact .inr ⟨rfl, lx_trans h k⟩
theorem lx_snoc : ∀ {a b : List Int} (x y : Int), a.length = b.length → lx a b → lx (a ++ [x]) (b ++ [y])
  | [], _, _, _, _, h => h.elim
  | _ :: _, [], _, _, _, h => h.elim
  | c :: a, d :: b, x, y, hl, h => by
    rcases h with h | ⟨rfl, h⟩
    · exact .inl h
    · exact .inr ⟨rfl, lx_snoc x y (by simpa using hl) h⟩
theorem lx_same : ∀ (a : List Int) {x y : Int}, x < y → lx (a ++ [x]) (a ++ [y])
  | [], _, _, h => .inl h
  | c :: a, _, _, h => .inr ⟨rfl, lx_same a h⟩
def slt (a b : List Int) : Prop := a.length < b.length ∨ (a.length = b.length ∧ lx a b)
def sle (a b : List Int) : Prop := a = b ∨ slt a b
theorem slt_irrefl (a : List Int) : ¬ slt a a := fun h => by
  rcases h with h | ⟨_, h⟩
  · omega
  · exact lx_irrefl a h
theorem slt_trans {a b c : List Int} (h : slt a b) (k : slt b c) : slt a c := by
  rcases h with h | ⟨h1, h2⟩ <;> rcases k with k | ⟨k1, k2⟩
  · exact .inl (by omega)
  · exact .inl (by omega)
  · exact .inl (by omega)
  · exact .inr ⟨by omega, lx_trans h2 k2⟩
theorem sle_trans {a b c : List Int} (h : sle a b) (k : sle b c) : sle a c := by
  rcases h with rfl | h
  · exact k
  · rcases k with rfl | k
    · exact .inr h
    · exact .inr (slt_trans h k)
theorem slt_snoc {a b : List Int} (x y : Int) (h : slt a b) : slt (a ++ [x]) (b ++ [y]) := by
  rcases h with h | ⟨h1, h2⟩
  · exact .inl (by simp; omega)
  · exact .inr ⟨by simp; omega, lx_snoc x y h1 h2⟩
theorem slt_same (a : List Int) {x y : Int} (h : x < y) : slt (a ++ [x]) (a ++ [y]) := .inr ⟨by simp, lx_same a h⟩
theorem sle_snoc {a b : List Int} (x : Int) (h : sle a b) : sle (a ++ [x]) (b ++ [x]) := by
  rcases h with rfl | h
  · exact .inl rfl
  · exact .inr (slt_snoc x x h)
theorem sle_len {a b : List Int} (h : sle a b) : a.length ≤ b.length := by
  rcases h with rfl | h | ⟨h, _⟩ <;> omega

theorem nodup_le : ∀ (N : Nat) (V : List Int), V.Nodup → (∀ s ∈ V, 0 ≤ s ∧ s.toNat < N) → V.length ≤ N
  | 0, V, _, h => by
    cases V with
    | nil => simp
    | cons s V => have := (h s (by simp)).2; omega
  | N + 1, V, hn, h => by
    by_cases hm : (N : Int) ∈ V
    · have h1 := nodup_le N (V.erase (N : Int)) (hn.erase _) (fun s hs => by
        have h2 := h s (List.mem_of_mem_erase hs)
        have h3 : s ≠ (N : Int) := fun e => by
          have := (List.Nodup.mem_erase_iff hn).1 hs
          exact this.1 e
        omega)
      rw [List.length_erase_of_mem hm] at h1
      omega
    · have := nodup_le N V hn (fun s hs => by
        have h2 := h s hs
        have h3 : s ≠ (N : Int) := fun e => hm (e ▸ hs)
        omega)
      omega

/-! ### the steps from a state, in order -/
theorem idxs_sorted (p : E → Bool) : ∀ (es : List E) (k : Nat), (idxs p k es).Pairwise (· < ·) ∧ ∀ i ∈ idxs p k es, (k : Int) ≤ i
  | [], k => ⟨.nil, fun i h => by simp [idxs] at h⟩
  | e :: es, k => by
    obtain ⟨h1, h2⟩ := idxs_sorted p es (k + 1)
    simp only [idxs]
    split
    · refine ⟨List.pairwise_cons.2 ⟨fun i hi => by have := h2 i hi; omega, h1⟩, fun i hi => ?_⟩
      rcases List.mem_cons.1 hi with rfl | hi
      · omega
      · have := h2 i hi; omega
    · exact ⟨h1, fun i hi => by have := h2 i hi; omega⟩
theorem idxs_all {p : E → Bool} : ∀ {es : List E} {k j : Nat} {e : E}, es[j]? = some e → p e = true → ((k + j : Nat) : Int) ∈ idxs p k es
  | [], _, _, _, h, _ => by simp at h
  | e0 :: es, k, 0, e, h, hp => by
    simp only [List.getElem?_cons_zero, Option.some.injEq] at h; subst h
    simp [idxs, hp]
  | e0 :: es, k, j + 1, e, h, hp => by
    have := idxs_all (k := k + 1) (by simpa using h : es[j]? = some e) hp
    have e1 : k + 1 + j = k + (j + 1) := by omega
    rw [e1] at this
    simp only [idxs]
    split
    · exact List.mem_cons_of_mem _ this
    · exact this
theorem outs_iff {es : List E} {s i : Int} : i ∈ outs es s ↔ okI es i ∧ frOf es i = s := by
  constructor
  · intro h
    obtain ⟨h0, e, he, hf⟩ := outs_mem h
    exact ⟨⟨h0, e, he⟩, by simp only [frOf, he]; exact hf⟩
  · rintro ⟨⟨h0, e, he⟩, hf⟩
    simp only [frOf, he] at hf
    have := idxs_all (p := fun e => decide (e.f = s)) (k := 0) he (by simpa using hf)
    rw [Nat.zero_add, Int.toNat_of_nonneg h0] at this
    exact this

/-! ### the search -/
structure BI (N : Nat) (es : List E) (l : List Int) (X : Int → Int → Prop) (V : List Int) (K : Int → List Int) (d b : List Int) : Prop where
  dl : d.length = N
  bl : b.length = N
  mem : ∀ s ∈ V, 0 ≤ s ∧ s.toNat < N
  val : ∀ s ∈ V, d.getD s.toNat 0 = (K s).length - 1
  out : ∀ s : Int, 0 ≤ s → s.toNat < N → s ∉ V → d.getD s.toNat 0 = -1
  sorted : V.Pairwise (fun u v => slt (K u) (K v))
  base : ∀ s ∈ V, (s ∈ l ∧ K s = [s]) ∨ ∃ u i, u ∈ V ∧ X u i ∧ okI es i ∧ frOf es i = u ∧ toOf es i = s ∧ K s = K u ++ [i] ∧ b.getD s.toNat 0 = i
  clo : ∀ u i, u ∈ V → X u i → okI es i → frOf es i = u → toOf es i ∈ V ∧ sle (K (toOf es i)) (K u ++ [i])
  ini : ∀ s ∈ l, s ∈ V ∧ K s = [s]
  xin : ∀ u i, X u i → u ∈ V
section
variable {N : Nat} {es : List E} {l : List Int} {X : Int → Int → Prop} {V : List Int} {K : Int → List Int} {d b : List Int}
theorem BI.pos (h : BI N es l X V K d b) {s : Int} (hs : s ∈ V) : 1 ≤ (K s).length := by
  rcases h.base s hs with ⟨_, h⟩ | ⟨u, i, _, _, _, _, _, h, _⟩ <;> rw [h] <;> simp
theorem BI.nodup (h : BI N es l X V K d b) : V.Nodup := by
  refine List.Pairwise.imp (fun {u v} hs => ?_) h.sorted
  intro e
  rw [e] at hs
  exact slt_irrefl _ hs
theorem getD_set {d : List Int} {j k : Nat} {x : Int} (hj : j < d.length) : (d.set j x).getD k 0 = if k = j then x else d.getD k 0 := by
  rw [List.getD_eq_getElem?_getD]
  by_cases e : k = j
  · subst e; rw [List.getElem?_set_self hj, if_pos rfl]; rfl
  · rw [List.getElem?_set_ne (Ne.symm e), if_neg e, ← List.getD_eq_getElem?_getD]
/-- one step from s -/
theorem BI.step (h : BI N es l X V K d b) {s i : Int} (hs : s ∈ V) (hok : okI es i) (hf : frOf es i = s) (ht : 0 ≤ toOf es i ∧ (toOf es i).toNat < N) (hX : ∀ u j, u ∈ V → X u j → slt (K u) (K s) ∨ (u = s ∧ j < i)) :
    (d.getD (toOf es i).toNat 0 = -1 → ∃ K', (∀ v ∈ V, K' v = K v) ∧ BI N es l (fun u j => X u j ∨ (u = s ∧ j = i)) (V ++ [toOf es i]) K' (d.set (toOf es i).toNat (d.getD s.toNat 0 + 1)) (b.set (toOf es i).toNat i)) ∧
    (d.getD (toOf es i).toNat 0 ≠ -1 → BI N es l (fun u j => X u j ∨ (u = s ∧ j = i)) V K d b) := by
  have hall : ∀ v ∈ V, slt (K v) (K s ++ [i]) := fun v hv => by
    rcases h.base v hv with ⟨_, hk⟩ | ⟨u, j, hu, hx, _, _, _, hk, _⟩
    · rw [hk]; left; have := h.pos hs; simp; omega
    · rw [hk]
      rcases hX u j hu hx with h1 | ⟨rfl, h1⟩
      · exact slt_snoc j i h1
      · exact slt_same _ h1
  constructor
  · intro hd
    have htV : toOf es i ∉ V := fun hm => by
      have := h.val _ hm
      have := h.pos hm
      omega
    refine ⟨fun v => if v = toOf es i then K s ++ [i] else K v, fun v hv => if_neg (fun e : v = toOf es i => htV (e ▸ hv)), ?_⟩
    have hK : ∀ v ∈ V, (if v = toOf es i then K s ++ [i] else K v) = K v := fun v hv => if_neg (fun e : v = toOf es i => htV (e ▸ hv))
    have hne : ∀ v ∈ V, v.toNat ≠ (toOf es i).toNat := fun v hv e => htV (by
      have := h.mem v hv
      have e2 : v = toOf es i := by omega
      exact e2 ▸ hv)
    refine ⟨by simp [h.dl], by simp [h.bl], fun v hv => ?_, fun v hv => ?_, fun v v0 v1 hv => ?_, ?_, fun v hv => ?_, fun u j hu hx hj hfj => ?_, fun v hv => ?_, fun u j hx => ?_⟩
    rotate_left 7
    · rcases hx with hx | ⟨rfl, rfl⟩
      · simp [h.xin u j hx]
      · simp [hs]
    · rcases List.mem_append.1 hv with hv | hv
      · exact h.mem v hv
      · simp only [List.mem_singleton] at hv; subst hv; exact ht
    · rw [getD_set (by rw [h.dl]; exact ht.2)]
      rcases List.mem_append.1 hv with hv | hv
      · rw [if_neg (hne v hv), hK v hv]; exact h.val v hv
      · simp only [List.mem_singleton] at hv; subst hv
        have := h.val s hs
        simp only [if_true]
        simp only [List.length_append, List.length_cons, List.length_nil]
        push_cast; omega
    · rw [List.mem_append, not_or, List.mem_singleton] at hv
      rw [getD_set (by rw [h.dl]; exact ht.2), if_neg (fun e => hv.2 (by omega))]
      exact h.out v v0 v1 hv.1
    · rw [List.pairwise_append]
      refine ⟨h.sorted.imp_of_mem fun {u v} hu hv hs => by rw [hK u hu, hK v hv]; exact hs, List.pairwise_singleton _ _, fun v hv t ht' => ?_⟩
      simp only [List.mem_singleton] at ht'; subst ht'
      rw [hK v hv, if_pos rfl]; exact hall v hv
    · rcases List.mem_append.1 hv with hv | hv
      · rw [hK v hv]
        rcases h.base v hv with h1 | ⟨u, j, h1, h2, h3, h4, h5, h6, h7⟩
        · exact .inl h1
        · refine .inr ⟨u, j, by simp [h1], .inl h2, h3, h4, h5, by rw [hK u h1]; exact h6, ?_⟩
          rw [getD_set (by rw [h.bl]; exact ht.2), if_neg (hne v hv)]; exact h7
      · simp only [List.mem_singleton] at hv; subst hv
        refine .inr ⟨s, i, by simp [hs], .inr ⟨rfl, rfl⟩, hok, hf, rfl, by rw [if_pos rfl, hK s hs], ?_⟩
        rw [getD_set (by rw [h.bl]; exact ht.2), if_pos rfl]
    · rcases hx with hx | ⟨rfl, rfl⟩
      · have huV : u ∈ V := h.xin u j hx
        obtain ⟨h1, h2⟩ := h.clo u j huV hx hj hfj
        exact ⟨by simp [h1], by rw [hK _ h1, hK u huV]; exact h2⟩
      · refine ⟨by simp, .inl ?_⟩
        rw [if_pos rfl, hK u hs]
    · obtain ⟨h1, h2⟩ := h.ini v hv
      exact ⟨by simp [h1], by rw [hK v h1]; exact h2⟩
  · intro hd
    have htV : toOf es i ∈ V := by
      by_cases hm : toOf es i ∈ V
      · exact hm
      · exact absurd (h.out _ ht.1 ht.2 hm) hd
    refine ⟨h.dl, h.bl, h.mem, h.val, h.out, h.sorted, fun v hv => ?_, fun u j hu hx hj hfj => ?_, h.ini, fun u j hx => hx.elim (h.xin u j) (fun e => e.1 ▸ hs)⟩
    · rcases h.base v hv with h1 | ⟨u, j, h1, h2, h3⟩
      · exact .inl h1
      · exact .inr ⟨u, j, h1, .inl h2, h3⟩
    · rcases hx with hx | ⟨rfl, rfl⟩
      · exact h.clo u j hu hx hj hfj
      · exact ⟨htV, .inr (hall _ htV)⟩
end
end Go.Proofs.Ytnnjklkfcleleaa.R
