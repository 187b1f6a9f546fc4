/-
  CHAPTER 20, plain lists: what the search finds; the rounds of the reference find the same.
-/
import Derived.Test.YtnnjklkfcleleaaWn
namespace Go.Proofs.Ytnnjklkfcleleaa.R
open Go Go.Proofs.Ytnnjklkfcleleaa.Vm
set_option linter.unusedVariables false
set_option linter.unusedSimpArgs false

section
variable {N : Nat} {es : List E} {l : List Int} {X X' : Int → Int → Prop} {V : List Int} {K : Int → List Int} {d b : List Int}
theorem BI.weaken (h : BI N es l X V K d b) (h1 : ∀ u j, X u j → X' u j) (h2 : ∀ u j, X' u j → okI es j → frOf es j = u → X u j) (h3 : ∀ u j, X' u j → u ∈ V) : BI N es l X' V K d b :=
  ⟨h.dl, h.bl, h.mem, h.val, h.out, h.sorted, fun v hv => (h.base v hv).imp id fun ⟨u, i, g1, g2, g3⟩ => ⟨u, i, g1, h1 u i g2, g3⟩, fun u i hu hx hi hf => h.clo u i hu (h2 u i hx hi hf) hi hf, h.ini, h3⟩
theorem BI.relax {s : Int} : ∀ (ls : List Int) (W q : List Int) (X : Int → Int → Prop) (K : Int → List Int) (d b : List Int), BI N es l X (W ++ q) K d b → s ∈ W → ls.Pairwise (· < ·) → (∀ i ∈ ls, okI es i ∧ frOf es i = s ∧ 0 ≤ toOf es i ∧ (toOf es i).toNat < N) →
    (∀ u j, X u j → slt (K u) (K s) ∨ (u = s ∧ ∀ i ∈ ls, j < i)) →
    ∃ K', BI N es l (fun u j => X u j ∨ (u = s ∧ j ∈ ls)) (W ++ (R.relax es s ls (d, b, q)).2.2) K' (R.relax es s ls (d, b, q)).1 (R.relax es s ls (d, b, q)).2.1
  | [], W, q, X, K, d, b, h, hs, _, _, _ => ⟨K, h.weaken (fun u j hx => .inl hx) (fun u j hx _ _ => hx.elim id fun e => by simp at e) (fun u j hx => hx.elim (h.xin u j) fun e => by simp at e)⟩
  | i :: ls, W, q, X, K, d, b, h, hs, hp, hl, hX => by
    rw [List.pairwise_cons] at hp
    obtain ⟨hok, hf, ht⟩ := hl i (by simp)
    have hsV : s ∈ W ++ q := by simp [hs]
    obtain ⟨st1, st2⟩ := h.step hsV hok hf ht (fun u j _ hx => (hX u j hx).imp id fun ⟨e, hj⟩ => ⟨e, hj i (by simp)⟩)
    simp only [R.relax]
    by_cases hd : d.getD (toOf es i).toNat 0 = -1
    · obtain ⟨K1, hK, h1⟩ := st1 hd
      rw [List.append_assoc] at h1
      obtain ⟨K2, h2⟩ := BI.relax ls W (q ++ [toOf es i]) _ K1 _ _ h1 hs hp.2 (fun j hj => hl j (by simp [hj])) (fun u j hx => by
        rcases hx with hx | ⟨rfl, rfl⟩
        · rcases hX u j hx with h3 | ⟨h3, h4⟩
          · left; rw [hK u (h.xin u j hx), hK s hsV]; exact h3
          · exact .inr ⟨h3, fun i' hi' => h4 i' (by simp [hi'])⟩
        · exact .inr ⟨rfl, fun i' hi' => hp.1 i' hi'⟩)
      rw [if_pos hd]
      refine ⟨K2, h2.weaken (fun u j hx => ?_) (fun u j hx _ _ => ?_) (fun u j hx => ?_)⟩
      · rcases hx with (hx | ⟨rfl, rfl⟩) | ⟨rfl, hx⟩
        · exact .inl hx
        · exact .inr ⟨rfl, by simp⟩
        · exact .inr ⟨rfl, by simp [hx]⟩
      · rcases hx with hx | ⟨rfl, hx⟩
        · exact .inl (.inl hx)
        · rcases List.mem_cons.1 hx with rfl | hx
          · exact .inl (.inr ⟨rfl, rfl⟩)
          · exact .inr ⟨rfl, hx⟩
      · refine h2.xin u j ?_
        rcases hx with hx | ⟨rfl, hx⟩
        · exact .inl (.inl hx)
        · rcases List.mem_cons.1 hx with rfl | hx
          · exact .inl (.inr ⟨rfl, rfl⟩)
          · exact .inr ⟨rfl, hx⟩
    · have h1 := st2 hd
      obtain ⟨K2, h2⟩ := BI.relax ls W q _ K _ _ h1 hs hp.2 (fun j hj => hl j (by simp [hj])) (fun u j hx => by
        rcases hx with hx | ⟨rfl, rfl⟩
        · rcases hX u j hx with h3 | ⟨h3, h4⟩
          · exact .inl h3
          · exact .inr ⟨h3, fun i' hi' => h4 i' (by simp [hi'])⟩
        · exact .inr ⟨rfl, fun i' hi' => hp.1 i' hi'⟩)
      rw [if_neg hd]
      refine ⟨K2, h2.weaken (fun u j hx => ?_) (fun u j hx _ _ => ?_) (fun u j hx => ?_)⟩
      · rcases hx with (hx | ⟨rfl, rfl⟩) | ⟨rfl, hx⟩
        · exact .inl hx
        · exact .inr ⟨rfl, by simp⟩
        · exact .inr ⟨rfl, by simp [hx]⟩
      · rcases hx with hx | ⟨rfl, hx⟩
        · exact .inl (.inl hx)
        · rcases List.mem_cons.1 hx with rfl | hx
          · exact .inl (.inr ⟨rfl, rfl⟩)
          · exact .inr ⟨rfl, hx⟩
      · refine h2.xin u j ?_
        rcases hx with hx | ⟨rfl, hx⟩
        · exact .inl (.inl hx)
        · rcases List.mem_cons.1 hx with rfl | hx
          · exact .inl (.inr ⟨rfl, rfl⟩)
          · exact .inr ⟨rfl, hx⟩
theorem bfs_ok (ge : goodE (N : Int) es) : ∀ (F : Nat) (P q : List Int) (K : Int → List Int) (d b : List Int), BI N es l (fun u _ => u ∈ P) (P ++ q) K d b → N < F + P.length → ∃ d' b' K' V', bfs es F (d, b, q) = some (d', b') ∧ BI N es l (fun u _ => u ∈ V') V' K' d' b'
  | 0, P, q, K, d, b, h, hF => by
    have := nodup_le N _ h.nodup h.mem
    rw [List.length_append] at this; omega
  | F + 1, P, [], K, d, b, h, hF => ⟨d, b, K, P, rfl, by simpa using h⟩
  | F + 1, P, s :: q, K, d, b, h, hF => by
    have hW : P ++ s :: q = (P ++ [s]) ++ q := by simp
    have hsort := h.sorted
    rw [List.pairwise_append] at hsort
    rw [hW] at h
    obtain ⟨K', h1⟩ := BI.relax (s := s) (outs es s) (P ++ [s]) q _ K d b h (by simp) (idxs_sorted _ _ _).1 (fun i hi => by
      obtain ⟨h1, h2⟩ := outs_iff.1 hi
      exact ⟨h1, h2, toOf_in ge h1⟩) (fun u j hu => .inl (hsort.2.2 u hu s (by simp)))
    have h2 : BI N es l (fun u _ => u ∈ P ++ [s]) ((P ++ [s]) ++ (R.relax es s (outs es s) (d, b, q)).2.2) K' (R.relax es s (outs es s) (d, b, q)).1 (R.relax es s (outs es s) (d, b, q)).2.1 := h1.weaken (fun u j hx => by
        rcases hx with hx | ⟨rfl, _⟩
        · simp [hx]
        · simp) (fun u j hx hj hf => by
        rcases List.mem_append.1 hx with hx | hx
        · exact .inl hx
        · simp only [List.mem_singleton] at hx; subst hx
          exact .inr ⟨rfl, outs_iff.2 ⟨hj, hf⟩⟩) (fun u j hx => by rw [List.mem_append]; exact .inl hx)
    obtain ⟨d', b', K2, V', h3, h4⟩ := bfs_ok ge F (P ++ [s]) _ K' _ _ h2 (by simp; omega)
    exact ⟨d', b', K2, V', by simp only [bfs]; exact h3, h4⟩
theorem bfs_spec (ge : goodE (N : Int) es) (hin : ∀ s ∈ l, 0 ≤ s ∧ s.toNat < N) (hs : l.Pairwise (· < ·)) : ∃ d b K V, bfs es (N + 1) (far0 N l) = some (d, b) ∧ BI N es l (fun u _ => u ∈ V) V K d b := by
  obtain ⟨z1, z2⟩ := zeros_spec l (List.replicate N (-1)) (by simp) hin
  refine bfs_ok ge (N + 1) [] l (fun s => [s]) _ _ ⟨z1, by simp, hin, fun s h => ?_, fun s s0 s1 h => ?_, ?_, fun s h => .inl ⟨h, rfl⟩, fun u i _ h => (by cases h), fun s h => ⟨h, rfl⟩, fun u i h => (by cases h)⟩ (by simp)
  · rw [z2 _ (hin s h).2, if_pos ⟨s, h, rfl⟩]; simp
  · rw [z2 _ s1, if_neg (fun ⟨x, hx, e⟩ => h (by
      have := (hin x hx).1
      have e2 : x = s := by omega
      exact e2 ▸ hx)), List.getD_eq_getElem?_getD, List.getElem?_replicate, if_pos s1]; rfl
  · exact hs.imp fun h => .inr ⟨rfl, .inl h⟩

/-! ### paths -/
def Run (es : List E) : Int → List Int → Int → Prop
  | s, [], t => s = t
  | s, i :: r, t => okI es i ∧ frOf es i = s ∧ Run es (toOf es i) r t
theorem Run.snoc {es : List E} : ∀ {s : Int} {r : List Int} {u i : Int}, Run es s r u → okI es i → frOf es i = u → Run es s (r ++ [i]) (toOf es i)
  | s, [], u, i, h, h1, h2 => by
    have h : s = u := h
    subst h
    exact ⟨h1, h2, rfl⟩
  | s, j :: r, u, i, h, h1, h2 => ⟨h.1, h.2.1, Run.snoc h.2.2 h1 h2⟩
variable (h : BI N es l (fun u _ => u ∈ V) V K d b)
include h
theorem BI.least : ∀ (r k : List Int) (u t : Int), u ∈ V → sle (K u) k → Run es u r t → t ∈ V ∧ sle (K t) (k ++ r)
  | [], k, u, t, hu, hk, hr => by
    have hr : u = t := hr
    subst hr
    exact ⟨hu, by simpa using hk⟩
  | i :: r, k, u, t, hu, hk, hr => by
    obtain ⟨h1, h2, h3⟩ := hr
    obtain ⟨c1, c2⟩ := h.clo u i hu hu h1 h2
    have := BI.least r (k ++ [i]) (toOf es i) t c1 (sle_trans c2 (sle_snoc i hk)) h3
    simpa using this
theorem BI.least0 {x t : Int} {r : List Int} (hx : x ∈ l) (hr : Run es x r t) : t ∈ V ∧ sle (K t) (x :: r) := by
  obtain ⟨h1, h2⟩ := h.ini x hx
  exact h.least r [x] x t h1 (.inl h2) hr
theorem BI.path : ∀ (n : Nat) (t : Int), t ∈ V → (K t).length ≤ n → ∃ x r, x ∈ l ∧ K t = x :: r ∧ Run es x r t
  | 0, t, ht, hn => by have := h.pos ht; omega
  | n + 1, t, ht, hn => by
    rcases h.base t ht with ⟨h1, h2⟩ | ⟨u, i, h1, _, h3, h4, h5, h6, _⟩
    · exact ⟨t, [], h1, h2, rfl⟩
    · obtain ⟨x, r, g1, g2, g3⟩ := BI.path n u h1 (by rw [h6] at hn; simp at hn; omega)
      exact ⟨x, r ++ [i], g1, by rw [h6, g2]; rfl, by have := g3.snoc h3 h4; rwa [h5] at this⟩
theorem BI.back : ∀ (F : Nat) (t : Int) (acc : List Int), t ∈ V → (K t).length ≤ F → ∃ x r, K t = x :: r ∧ R.back es d b F t acc = some (x, acc ++ r.reverse)
  | 0, t, acc, ht, hn => by have := h.pos ht; omega
  | F + 1, t, acc, ht, hn => by
    have hv := h.val t ht
    rcases h.base t ht with ⟨h1, h2⟩ | ⟨u, i, h1, _, h3, h4, h5, h6, h7⟩
    · refine ⟨t, [], h2, ?_⟩
      rw [h2] at hv
      simp only [R.back]
      rw [if_neg (by rw [hv]; simp)]
      simp
    · have hp := h.pos h1
      obtain ⟨x, r, g1, g2⟩ := BI.back F u (acc ++ [i]) h1 (by rw [h6] at hn; simp at hn; omega)
      refine ⟨x, r ++ [i], by rw [h6, g1]; rfl, ?_⟩
      simp only [R.back]
      rw [if_pos (by rw [hv, h6]; simp; omega), h7, h4, g2]
      simp
theorem BI.hval : ∀ t : Int, 0 ≤ t → t.toNat < N → 0 < d.getD t.toNat 0 → okI es (b.getD t.toNat 0) ∧ 0 ≤ frOf es (b.getD t.toNat 0) ∧ (frOf es (b.getD t.toNat 0)).toNat < N := by
  intro t t0 t1 hp
  have ht : t ∈ V := by
    by_cases hm : t ∈ V
    · exact hm
    · rw [h.out t t0 t1 hm] at hp; omega
  rcases h.base t ht with ⟨h1, h2⟩ | ⟨u, i, h1, _, h3, h4, h5, h6, h7⟩
  · rw [h.val t ht, h2] at hp; simp at hp
  · rw [h7, h4]
    exact ⟨h3, h.mem u h1⟩
/-- the distances are less than the number of states -/
theorem BI.lt (t : Int) (ht : t ∈ V) : (K t).length ≤ N := by
  have chain : ∀ (n : Nat) (t : Int), t ∈ V → (K t).length = n + 1 → ∃ W : List Int, W.length = n + 1 ∧ W.Nodup ∧ ∀ s ∈ W, s ∈ V ∧ (K s).length ≤ n + 1 := by
    intro n
    induction n with
    | zero => intro t ht hk; exact ⟨[t], rfl, by simp, fun s hs => by simp at hs; subst hs; exact ⟨ht, by omega⟩⟩
    | succ n ih =>
      intro t ht hk
      rcases h.base t ht with ⟨_, h2⟩ | ⟨u, i, h1, _, h3, h4, h5, h6, _⟩
      · rw [h2] at hk; simp at hk
      · obtain ⟨W, g1, g2, g3⟩ := ih u h1 (by rw [h6] at hk; simp at hk; omega)
        refine ⟨t :: W, by simp [g1], List.nodup_cons.2 ⟨fun hm => by have := (g3 t hm).2; omega, g2⟩, fun s hs => ?_⟩
        rcases List.mem_cons.1 hs with rfl | hs
        · exact ⟨ht, by omega⟩
        · exact ⟨(g3 s hs).1, by have := (g3 s hs).2; omega⟩
  have hp := h.pos ht
  obtain ⟨W, g1, g2, g3⟩ := chain ((K t).length - 1) t ht (by omega)
  have := nodup_le N W g2 (fun s hs => h.mem s (g3 s hs).1)
  omega
end

/-! ### the rounds -/
section
variable {N : Nat} {es : List E} {D : Int → Int}
def Stage (N : Nat) (D : Int → Int) (f : Int) (d : List Int) : Prop := d.length = N ∧ ∀ t : Int, 0 ≤ t → t.toNat < N → d.getD t.toNat 0 = if 0 ≤ D t ∧ D t ≤ f then D t else -1
theorem rnd_stage (ge : ∀ e ∈ es, (0 ≤ e.f ∧ e.f.toNat < N) ∧ 0 ≤ e.t ∧ e.t.toNat < N) (h2 : ∀ e ∈ es, 0 ≤ D e.f → 0 ≤ D e.t ∧ D e.t ≤ D e.f + 1) {f : Int} (hf : 0 ≤ f) : ∀ (rest pre : List E) (d : List Int), es = pre ++ rest → d.length = N →
    (∀ t : Int, 0 ≤ t → t.toNat < N → d.getD t.toNat 0 = if 0 ≤ D t ∧ D t ≤ f then D t else if D t = f + 1 ∧ ∃ e ∈ pre, e.t = t ∧ D e.f = f then f + 1 else -1) →
    (rnd f rest d).length = N ∧ ∀ t : Int, 0 ≤ t → t.toNat < N → (rnd f rest d).getD t.toNat 0 = if 0 ≤ D t ∧ D t ≤ f then D t else if D t = f + 1 ∧ ∃ e ∈ es, e.t = t ∧ D e.f = f then f + 1 else -1
  | [], pre, d, he, hd, h => by
    rw [List.append_nil] at he; subst he
    exact ⟨hd, h⟩
  | e :: rest, pre, d, he, hd, h => by
    have hem : e ∈ es := by rw [he]; simp
    obtain ⟨⟨f0, f1⟩, t0, t1⟩ := ge e hem
    simp only [rnd]
    have hfr : d.getD e.f.toNat 0 = f ↔ D e.f = f := by
      rw [h e.f f0 f1]
      by_cases h1 : 0 ≤ D e.f ∧ D e.f ≤ f
      · rw [if_pos h1]
      · rw [if_neg h1]
        split
        · constructor <;> intro h3 <;> omega
        · constructor <;> intro h3 <;> omega
    refine rnd_stage ge h2 hf rest (pre ++ [e]) _ (by rw [he]; simp) (by split <;> simp [hd]) (fun t tt0 tt1 => ?_)
    by_cases hc : d.getD e.f.toNat 0 = f ∧ d.getD e.t.toNat 0 = -1
    · rw [if_pos hc]
      have hDf := hfr.1 hc.1
      have h3 := h2 e hem (by rw [hDf]; exact hf)
      have h4 := h e.t t0 t1
      rw [hc.2] at h4
      have hDt : D e.t = f + 1 := by
        by_cases h5 : 0 ≤ D e.t ∧ D e.t ≤ f
        · rw [if_pos h5] at h4; clear h; omega
        · clear h h4; omega
      clear h4
      rw [getD_set (by rw [hd]; exact t1)]
      by_cases e1 : t.toNat = e.t.toNat
      · have e2 : t = e.t := by omega
        subst e2
        rw [if_pos rfl, if_neg (by omega), if_pos ⟨hDt, e, by simp, rfl, hDf⟩]
      · rw [if_neg e1, h t tt0 tt1]
        have : (∃ x ∈ pre, x.t = t ∧ D x.f = f) ↔ (∃ x ∈ pre ++ [e], x.t = t ∧ D x.f = f) := by
          constructor
          · rintro ⟨x, hx, h5⟩; exact ⟨x, by simp [hx], h5⟩
          · rintro ⟨x, hx, h5⟩
            rcases List.mem_append.1 hx with hx | hx
            · exact ⟨x, hx, h5⟩
            · simp only [List.mem_singleton] at hx; subst hx
              exact absurd (by rw [h5.1]) e1
        simp only [this]
    · rw [if_neg hc, h t tt0 tt1]
      by_cases h1 : 0 ≤ D t ∧ D t ≤ f
      · rw [if_pos h1, if_pos h1]
      · rw [if_neg h1, if_neg h1]
        by_cases h5 : D t = f + 1 ∧ ∃ x ∈ pre, x.t = t ∧ D x.f = f
        · obtain ⟨h6, x, h7, h8⟩ := h5
          rw [if_pos ⟨h6, x, h7, h8⟩, if_pos ⟨h6, x, by simp [h7], h8⟩]
        · rw [if_neg h5, if_neg]
          rintro ⟨h6, x, h7, h8⟩
          rcases List.mem_append.1 h7 with h7 | h7
          · exact h5 ⟨h6, x, h7, h8⟩
          · simp only [List.mem_singleton] at h7; subst h7
            refine hc ⟨hfr.2 h8.2, ?_⟩
            rw [h8.1, h t tt0 tt1, if_neg h1, if_neg h5]
theorem rnds_stage (ge : ∀ e ∈ es, (0 ≤ e.f ∧ e.f.toNat < N) ∧ 0 ≤ e.t ∧ e.t.toNat < N) (h2 : ∀ e ∈ es, 0 ≤ D e.f → 0 ≤ D e.t ∧ D e.t ≤ D e.f + 1) (h3 : ∀ t : Int, 0 ≤ t → t.toNat < N → 0 < D t → ∃ e ∈ es, e.t = t ∧ D e.f = D t - 1) : ∀ (k : Nat) (f : Int) (d : List Int), 0 ≤ f → Stage N D f d → Stage N D (f + k) (rnds es k f d)
  | 0, f, d, _, h => by simpa [rnds] using h
  | k + 1, f, d, hf, h => by
    simp only [rnds]
    obtain ⟨r1, r2⟩ := rnd_stage ge h2 hf es [] d rfl h.1 (fun t t0 t1 => by
      rw [h.2 t t0 t1]
      by_cases h1 : 0 ≤ D t ∧ D t ≤ f
      · rw [if_pos h1, if_pos h1]
      · rw [if_neg h1, if_neg h1, if_neg (fun ⟨_, x, hx, _⟩ => by cases hx)])
    have := rnds_stage ge h2 h3 k (f + 1) (rnd f es d) (by omega) ⟨r1, fun t t0 t1 => by
      rw [r2 t t0 t1]
      by_cases h1 : 0 ≤ D t ∧ D t ≤ f
      · rw [if_pos h1, if_pos (by omega)]
      · rw [if_neg h1]
        by_cases h4 : D t = f + 1
        · obtain ⟨e, he, h5, h6⟩ := h3 t t0 t1 (by omega)
          rw [if_pos ⟨h4, e, he, h5, by omega⟩, if_pos (by omega), h4]
        · rw [if_neg (fun h => h4 h.1), if_neg (by omega)]⟩
    have e1 : f + 1 + (k : Int) = f + ((k + 1 : Nat) : Int) := by push_cast; omega
    rwa [e1] at this
end
theorem BI.rounds {N : Nat} {es : List E} {l V : List Int} {K : Int → List Int} {d b : List Int} (h : BI N es l (fun u _ => u ∈ V) V K d b) (ge : goodE (N : Int) es) {d0 : List Int} (h0 : d0.length = N) (h1 : ∀ t : Int, 0 ≤ t → t.toNat < N → d0.getD t.toNat 0 = if t ∈ l then 0 else -1) : rnds es N 0 d0 = d := by
  have gi : ∀ e ∈ es, (0 ≤ e.f ∧ e.f.toNat < N) ∧ 0 ≤ e.t ∧ e.t.toNat < N := fun e he => by
    obtain ⟨h1, h2, _⟩ := ge e he
    exact ⟨by omega, by omega⟩
  have hD : ∀ t : Int, 0 ≤ t → t.toNat < N → (t ∈ V ∧ d.getD t.toNat 0 = (K t).length - 1) ∨ (t ∉ V ∧ d.getD t.toNat 0 = -1) := fun t t0 t1 => by
    by_cases hm : t ∈ V
    · exact .inl ⟨hm, h.val t hm⟩
    · exact .inr ⟨hm, h.out t t0 t1 hm⟩
  have edge : ∀ e ∈ es, ∃ i : Int, okI es i ∧ frOf es i = e.f ∧ toOf es i = e.t := fun e he => by
    obtain ⟨j, hj, rfl⟩ := List.getElem_of_mem he
    refine ⟨(j : Int), ⟨by omega, es[j], by simp [hj]⟩, ?_, ?_⟩
    · simp [frOf, hj]
    · simp [toOf, hj]
  have st := rnds_stage (N := N) (D := fun t => d.getD t.toNat 0) gi (fun e he hf => by
      obtain ⟨⟨f0, f1⟩, t0, t1⟩ := gi e he
      obtain ⟨i, i1, i2, i3⟩ := edge e he
      rcases hD e.f f0 f1 with ⟨m1, m2⟩ | ⟨_, m2⟩
      · obtain ⟨c1, c2⟩ := h.clo e.f i m1 m1 i1 i2
        rw [i3] at c1 c2
        have c3 := sle_len c2
        have p1 := h.pos c1
        simp at c3
        simp only [h.val _ c1, m2]; omega
      · simp only [m2] at hf; omega) (fun t t0 t1 hp => by
      rcases hD t t0 t1 with ⟨m1, m2⟩ | ⟨_, m2⟩
      · rcases h.base t m1 with ⟨_, k2⟩ | ⟨u, i, k1, _, k3, k4, k5, k6, _⟩
        · simp only [m2, k2] at hp; simp at hp
        · obtain ⟨_, e, he⟩ := k3
          refine ⟨e, List.mem_of_getElem? he, by simp only [toOf, he] at k5; exact k5, ?_⟩
          have : e.f = u := by simp only [frOf, he] at k4; exact k4
          simp only [this, m2, h.val u k1, k6]
          simp
      · simp only [m2] at hp; omega) N 0 d0 (by omega) ⟨h0, fun t t0 t1 => by
      rw [h1 t t0 t1]
      show _ = if 0 ≤ d.getD t.toNat 0 ∧ d.getD t.toNat 0 ≤ 0 then d.getD t.toNat 0 else -1
      by_cases hm : t ∈ l
      · obtain ⟨k1, k2⟩ := h.ini t hm
        have : d.getD t.toNat 0 = 0 := by rw [h.val t k1, k2]; simp
        rw [if_pos hm, this]; simp
      · rw [if_neg hm, if_neg]
        intro hc
        have hz : d.getD t.toNat 0 = 0 := by omega
        rcases hD t t0 t1 with ⟨m1, m2⟩ | ⟨_, m2⟩
        · rcases h.base t m1 with ⟨k1, _⟩ | ⟨u, i, k1, _, _, _, _, k6, _⟩
          · exact hm k1
          · have := h.pos k1
            rw [m2, k6] at hz
            simp only [List.length_append, List.length_cons, List.length_nil] at hz
            omega
        · omega⟩
  refine List.ext_getElem? fun t => ?_
  by_cases ht : t < N
  · have h5 := st.2 (t : Int) (by omega) (by simpa using ht)
    simp only [Int.toNat_natCast] at h5
    rw [getD_of (by rw [st.1]; exact ht) 0, getD_of (by rw [h.dl]; exact ht) 0, h5]
    rcases hD (t : Int) (by omega) (by simpa using ht) with ⟨m1, m2⟩ | ⟨_, m2⟩
    · simp only [Int.toNat_natCast] at m2
      have := h.lt _ m1
      have := h.pos m1
      rw [if_pos (by omega)]
    · simp only [Int.toNat_natCast] at m2
      rw [m2]; simp
  · rw [List.getElem?_eq_none (by rw [st.1]; omega), List.getElem?_eq_none (by rw [h.dl]; omega)]
end Go.Proofs.Ytnnjklkfcleleaa.R
