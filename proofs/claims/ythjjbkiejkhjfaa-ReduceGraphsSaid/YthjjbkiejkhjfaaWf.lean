/-
  CHAPTER 19: the states that can be reached and deadlocks, reference and program.
-/
import Derived.Test.YthjjbkiejkhjfaaWe
namespace Go.Proofs.Ythjjbkiejkhjfaa.R
open Go Go.Proofs.Ythjjbkiejkhjfaa.Vm
set_option linter.unusedVariables false
set_option linter.unusedSimpArgs false
variable {M : YM}
theorem uB_put' {N x : Nat} {p : Nat → Bool} {v : Bool} (h : x < N) : Sx.put (uB N p) 1 x 0 (.c (.bool v)) = some (uB N (upd p x v)) := by
  have := uB_put (p := p) (v := v) h
  rwa [Int.toNat_natCast] at this
def relF : List E3 → (Nat → Bool) → (Nat → Bool)
  | [], p => p
  | e :: es, p => relF es (upd p e.t.toNat (p e.t.toNat || p e.f.toNat))
def iniF : List Int → (Nat → Bool) → (Nat → Bool)
  | [], p => p
  | x :: l, p => iniF l (upd p x.toNat true)
def iterF (es : List E3) : Nat → (Nat → Bool) → (Nat → Bool)
  | 0, p => p
  | k + 1, p => iterF es k (relF es p)
theorem relF_mono {s : Nat} : ∀ {es : List E3} {p : Nat → Bool}, p s = true → relF es p s = true
  | [], p, h => h
  | e :: es, p, h => relF_mono (es := es) (by unfold upd; split <;> simp_all)
theorem relF_step {e : E3} : ∀ {es : List E3} {p : Nat → Bool}, e ∈ es → p e.f.toNat = true → relF es p e.t.toNat = true
  | x :: es, p, h, hp => by
    rcases List.mem_cons.1 h with rfl | h
    · exact relF_mono (es := es) (by simp [upd, hp])
    · exact relF_step (es := es) h (by unfold upd; split <;> simp_all)
def closed (es : List E3) (p : Nat → Bool) : Prop := ∀ e ∈ es, p e.f.toNat = true → p e.t.toNat = true
theorem relF_closed : ∀ {es : List E3} {p : Nat → Bool}, closed es p → relF es p = p
  | [], p, _ => rfl
  | e :: es, p, h => by
    have : upd p e.t.toNat (p e.t.toNat || p e.f.toNat) = p := by
      funext j
      unfold upd
      split
      · rename_i hj
        subst hj
        have := h e (by simp)
        cases hf : p e.f.toNat with
        | true => rw [this hf]; rfl
        | false => simp
      · rfl
    simp only [relF, this]
    exact relF_closed fun e' he' => h e' (by simp [he'])
theorem iterF_closed {es : List E3} : ∀ {k : Nat} {p : Nat → Bool}, closed es p → iterF es k p = p
  | 0, p, _ => rfl
  | k + 1, p, h => by simp only [iterF, relF_closed h]; exact iterF_closed h
theorem cnt_mono {p q : Nat → Bool} (h : ∀ j, p j = true → q j = true) : ∀ n, cnt q n ≤ cnt p n
  | 0 => Nat.le_refl _
  | n + 1 => by
    have := cnt_mono h n
    have h2 := h n
    simp only [cnt]
    split <;> split <;> first | omega | (simp_all)
theorem cnt_lt {p q : Nat → Bool} (h : ∀ j, p j = true → q j = true) {x : Nat} (hp : p x = false) (hq : q x = true) : ∀ {n : Nat}, x < n → cnt q n < cnt p n
  | n + 1, hx => by
    by_cases hxn : x = n
    · subst hxn
      have := cnt_mono h x
      simp only [cnt, hp, hq, if_true]
      simp; omega
    · have ih := cnt_lt h hp hq (n := n) (by omega)
      have h2 := h n
      simp only [cnt]
      split <;> split <;> first | omega | (simp_all)
theorem cnt_zero {p : Nat → Bool} : ∀ {n : Nat}, cnt p n = 0 → ∀ s, s < n → p s = true
  | n + 1, h, s, hs => by
    simp only [cnt] at h
    by_cases hsn : s = n
    · subst hsn
      cases hp : p s with
      | true => rfl
      | false => rw [hp] at h; simp at h
    · exact cnt_zero (n := n) (by omega) s (by omega)
theorem iterF_end {N : Nat} {es : List E3} (hok : ∀ e ∈ es, eOK (N : Int) e = true) : ∀ (k : Nat) (p : Nat → Bool), closed es (iterF es k p) ∨ cnt (iterF es k p) N + k ≤ cnt p N
  | 0, p => .inr (Nat.le_refl _)
  | k + 1, p => by
    by_cases hc : closed es p
    · left; rw [iterF_closed hc]; exact hc
    · unfold closed at hc
      simp only [Classical.not_forall] at hc
      obtain ⟨e, he, hf, ht⟩ := hc
      have ht' : p e.t.toNat = false := by cases h : p e.t.toNat; rfl; exact absurd h ht
      obtain ⟨_, h5, h6⟩ := eOK_good (hok e he)
      have hlt := cnt_lt (p := p) (q := relF es p) (fun j => relF_mono) ht' (relF_step he hf) (n := N) (by omega)
      rcases iterF_end hok k (relF es p) with h | h
      · exact .inl h
      · right; simp only [iterF]; omega
theorem iniF_iff {l : List Int} (hl : ∀ x ∈ l, 0 ≤ x) : ∀ {p : Nat → Bool} {s : Nat}, iniF l p s = true ↔ p s = true ∨ (s : Int) ∈ l := by
  induction l with
  | nil => intro p s; simp [iniF]
  | cons x l ih =>
    intro p s
    have hx := hl x (by simp)
    simp only [iniF, ih (fun y hy => hl y (by simp [hy])), List.mem_cons]
    unfold upd
    by_cases h : s = x.toNat
    · have : (s : Int) = x := by omega
      simp [h, this]
      omega
    · have : ¬ (s : Int) = x := by omega
      simp [h, this]
section
variable {N : Nat} {b1 b2 : Bool} {l : List Int} {es : List E3}
theorem relF_sound (hok : ∀ e ∈ es, eOK (N : Int) e = true) : ∀ {es' : List E3} {p : Nat → Bool}, (∀ e ∈ es', e ∈ es) → (∀ s, p s = true → Reach l es s) → ∀ s, relF es' p s = true → Reach l es s
  | [], p, _, h, s, hs => h s hs
  | e :: es', p, hsub, h, s, hs => by
    refine relF_sound hok (es' := es') (fun e' he' => hsub e' (by simp [he'])) (fun j hj => ?_) s hs
    unfold upd at hj
    split at hj
    · rename_i hjt
      have he := hsub e (by simp)
      obtain ⟨⟨h1, _⟩, h5, h6⟩ := eOK_good (hok e he)
      simp only [Bool.or_eq_true] at hj
      rcases hj with hj | hj
      · rw [hjt]; exact h _ hj
      · exact .step he (by omega) (by omega) (h _ hj)
    · exact h j hj
theorem iterF_sound (hok : ∀ e ∈ es, eOK (N : Int) e = true) : ∀ {k : Nat} {p : Nat → Bool}, (∀ s, p s = true → Reach l es s) → ∀ s, iterF es k p s = true → Reach l es s
  | 0, p, h, s, hs => h s hs
  | k + 1, p, h, s, hs => iterF_sound hok (k := k) (relF_sound hok (fun _ h => h) h) s hs
theorem iterF_mono {s : Nat} : ∀ {k : Nat} {p : Nat → Bool}, p s = true → iterF es k p s = true
  | 0, p, h => h
  | k + 1, p, h => iterF_mono (k := k) (relF_mono h)
theorem iterF_iff (hl : ∀ x ∈ l, 0 ≤ x ∧ x < (N : Int)) (hok : ∀ e ∈ es, eOK (N : Int) e = true) {s : Nat} (hs : s < N) : iterF es N (iniF l fun _ => false) s = true ↔ Reach l es s := by
  have hi := fun s => iniF_iff (l := l) (fun x hx => (hl x hx).1) (p := fun _ => false) (s := s)
  have hcl : ∀ s t, s < N → t < N → ∀ e ∈ es, e.f = (s : Int) → e.t = (t : Int) → iterF es N (iniF l fun _ => false) s = true → iterF es N (iniF l fun _ => false) t = true := by
    intro s t hs ht e he h1 h2 h3
    rcases iterF_end hok N (iniF l fun _ => false) with h | h
    · have := h e he (by rw [h1, Int.toNat_natCast]; exact h3)
      rwa [h2, Int.toNat_natCast] at this
    · have := cnt_le (iniF l fun _ => false) N
      exact cnt_zero (n := N) (by omega) t ht
  constructor
  · refine iterF_sound hok (fun s hs => ?_) s
    rcases (hi s).1 hs with h | h
    · cases h
    · exact .init h
  · intro h
    induction h with
    | init h => exact iterF_mono ((hi _).2 (.inr h))
    | step he hf ht h ih =>
      have hs' := reach_lt hl hok h
      exact hcl _ _ hs' hs _ he hf ht (ih hs')
/-! ### the reference -/
theorem y28_3_is (he : es.length ≤ 2000) (hok : ∀ e ∈ es, eOK (N : Int) e = true) {a1 : U} {r : Int} : ∀ (d k : Nat) (p : Nat → Bool), k + d = es.length → y28_3 M (N : Int) a1 (uEs b2 es) r (k : Int) (uB N p) = y28_2 M (N : Int) a1 (uEs b2 es) (IntKind.wrap .i64 (r + 1)) (uB N (relF (es.drop k) p)) := by
  intro d
  induction d with
  | zero =>
    intro k p hk
    rw [y28_3_eq, List.drop_of_length_le (by omega)]
    simp only [len_uEs, Option.bind_some, show ¬ ((k : Int) < es.length) by omega, decide_false, Bool.false_eq_true, if_false, relF]
  | succ d ih =>
    intro k p hk
    have hlt : k < es.length := by omega
    obtain ⟨⟨g1, g2, _, _⟩, g5, g6⟩ := eOK_good (hok _ (List.getElem_mem hlt))
    obtain ⟨s, hs⟩ := Int.eq_ofNat_of_zero_le g1
    obtain ⟨t, ht⟩ := Int.eq_ofNat_of_zero_le g5
    have hsN : s < N := by omega
    have htN : t < N := by omega
    rw [y28_3_eq, List.drop_eq_getElem_cons hlt]
    have hq : ∀ F : Bool → YRs, ((if p t = false then
        (U.idx 3 (uEs b2 es) (k : Int)).bind fun v11 =>
        (U.cell v11 0).bind fun c12 =>
        (U.asI .i64 c12).bind fun n13 =>
        (if Sx.has (uB N p) 1 n13 = true then
        (((uB N p).es)[n13.toNat]?).bind fun v14 =>
        (U.cell v14 0).bind fun c15 =>
        (U.asB c15).bind fun b16 => some b16
        else none)
      else some (p t)).bind F) = F (p t || p s) := by
      intro F
      simp only [idx_uEs (get?_of_lt hlt), Option.bind_some, cell_uE0, asI_c, hs, uB_has hsN, if_true, uB_get hsN, cell_c, asB_c]
      cases p t <;> simp
    simp only [len_uEs, Option.bind_some, show ((k : Int) < es.length) by omega, decide_true, if_true, idx_uEs (get?_of_lt hlt), cell_uE1, asI_c, ht, uB_has htN, uB_get htN, cell_c, asB_c]
    simp only [idx_uEs (get?_of_lt hlt), Option.bind_some] at hq
    rw [hq]
    simp only [uB_put htN, uB_put' htN, Option.bind_some, wrap_succ (show k ≤ 1000000000 by omega), ih (k + 1) _ (by omega), relF, hs, ht, Int.toNat_natCast]
theorem y28_2_is (hN : N ≤ 60) (he : es.length ≤ 2000) (hok : ∀ e ∈ es, eOK (N : Int) e = true) {a1 : U} : ∀ (d k : Nat) (p : Nat → Bool), k + d = N → y28_2 M (N : Int) a1 (uEs b2 es) (k : Int) (uB N p) = y28_4 M (N : Int) a1 (uEs b2 es) 0 (uB N (iterF es d p)) ⟨false, 0, []⟩ := by
  intro d
  induction d with
  | zero =>
    intro k p hk
    rw [y28_2_eq]
    simp only [show ¬ ((k : Int) < (N : Int)) by omega, decide_false, Bool.false_eq_true, if_false, iterF]
  | succ d ih =>
    intro k p hk
    have h3 := y28_3_is (M := M) (b2 := b2) (a1 := a1) (r := (k : Int)) he hok es.length 0 p (by omega)
    rw [List.drop_zero, show ((0 : Nat) : Int) = 0 from rfl, wrap_succ (show k ≤ 1000000000 by omega), ih (k + 1) _ (by omega)] at h3
    rw [y28_2_eq]
    simp only [show ((k : Int) < (N : Int)) by omega, decide_true, if_true, h3, iterF]
theorem y28_4_is (hN : N ≤ 60) {g1 g2 : U} {p : Nat → Bool} : ∀ (d k : Nat) (out : Sx) (lo : List Int), k + d = N → SxI out lo → lo.length ≤ k → ∃ s, y28_4 M (N : Int) g1 g2 (k : Int) (uB N p) out = some (.sl s) ∧ SxI s (lo ++ picks p d k) := by
  intro d
  induction d with
  | zero =>
    intro k out lo hk ho hn
    rw [y28_4_eq]
    simp only [show ¬ ((k : Int) < (N : Int)) by omega, decide_false, Bool.false_eq_true, if_false, ho.scals, if_true, picks, List.append_nil]
    exact ⟨out, rfl, ho⟩
  | succ d ih =>
    intro k out lo hk ho hn
    have hkN : k < N := by omega
    rw [y28_4_eq]
    simp only [show ((k : Int) < (N : Int)) by omega, decide_true, if_true, uB_has hkN, uB_get hkN, Option.bind_some, cell_c, asB_c, picks]
    cases hp : p k with
    | true =>
      obtain ⟨s', s1, s2⟩ := ho.app (k : Int) (by omega)
      obtain ⟨s, k1, k2⟩ := ih (k + 1) s' (lo ++ [(k : Int)]) (by omega) s2 (by simp; omega)
      simp only [if_true, s1, Option.bind_some, y28_5_eq, wrap_succ (show k ≤ 1000000000 by omega), k1]
      exact ⟨s, rfl, by simpa using k2⟩
    | false =>
      obtain ⟨s, k1, k2⟩ := ih (k + 1) out lo (by omega) ho (by omega)
      simp only [Bool.false_eq_true, if_false, y28_5_eq, wrap_succ (show k ≤ 1000000000 by omega), k1]
      exact ⟨s, rfl, by simpa using k2⟩
theorem y28_1_is (hl : ∀ x ∈ l, 0 ≤ x ∧ x < (N : Int)) (hn : l.length ≤ 1000) : ∀ (d k : Nat) (p : Nat → Bool), k + d = l.length → y28_1 M (N : Int) (uIs b1 l) (uEs b2 es) (k : Int) (uB N p) = y28_2 M (N : Int) (uIs b1 l) (uEs b2 es) 0 (uB N (iniF (l.drop k) p)) := by
  intro d
  induction d with
  | zero =>
    intro k p hk
    rw [y28_1_eq, List.drop_of_length_le (by omega)]
    simp only [len_uIs, Option.bind_some, show ¬ ((k : Int) < l.length) by omega, decide_false, Bool.false_eq_true, if_false, iniF]
  | succ d ih =>
    intro k p hk
    have hlt : k < l.length := by omega
    have hx := hl _ (List.getElem_mem hlt)
    obtain ⟨x, hx'⟩ := Int.eq_ofNat_of_zero_le hx.1
    have hxN : x < N := by omega
    rw [y28_1_eq, List.drop_eq_getElem_cons hlt]
    simp only [len_uIs, Option.bind_some, show ((k : Int) < l.length) by omega, decide_true, if_true, idx_uIs (get?_of_lt hlt), cell_c, asI_c, hx', uB_has hxN, uB_put hxN, uB_put' hxN, Option.bind_some, wrap_succ (show k ≤ 1000000000 by omega), ih (k + 1) _ (by omega), iniF, Int.toNat_natCast]
noncomputable def reachB (l : List Int) (es : List E3) (s : Nat) : Bool := @decide (Reach l es s) (Classical.propDecidable _)
theorem reachB_iff {s : Nat} : reachB l es s = true ↔ Reach l es s := by unfold reachB; simp
theorem eq_reachB {q : Nat → Bool} {s : Nat} (h : q s = true ↔ Reach l es s) : q s = reachB l es s := by
  rw [Bool.eq_iff_iff, h, reachB_iff]
noncomputable def reachL (N : Nat) (l : List Int) (es : List E3) : List Int := picks (reachB l es) N 0
theorem falses (N : Nat) : (⟨true, 1, List.replicate N (.c (.bool false))⟩ : Sx) = uB N fun _ => false := by
  unfold uB
  simp only [Sx.mk.injEq, true_and]
  refine List.ext_getElem? fun j => ?_
  by_cases hj : j < N <;> simp [hj, List.getElem?_replicate]
theorem y28_is (hN : N ≤ 60) (he : es.length ≤ 2000) (hn : l.length ≤ 1000) (hl : ∀ x ∈ l, 0 ≤ x ∧ x < (N : Int)) (hok : ∀ e ∈ es, eOK (N : Int) e = true) : ∃ s, y28 M (N : Int) (uIs b1 l) (uEs b2 es) = some (.sl s) ∧ SxI s (reachL N l es) := by
  have h1 := y28_1_is (M := M) (b1 := b1) (b2 := b2) (es := es) hl hn l.length 0 (fun _ => false) (by omega)
  have h2 := y28_2_is (M := M) (b2 := b2) (a1 := uIs b1 l) hN he hok N 0 (iniF l fun _ => false) (by omega)
  obtain ⟨s, s1, s2⟩ := y28_4_is (M := M) (N := N) (g1 := uIs b1 l) (g2 := uEs b2 es) (p := iterF es N (iniF l fun _ => false)) hN N 0 ⟨false, 0, []⟩ [] (by omega) SxI.nil (by simp)
  rw [List.drop_zero] at h1
  rw [show ((0 : Nat) : Int) = 0 from rfl] at h1 h2 s1
  rw [y28_eq, if_pos ⟨by omega, by omega, rfl⟩, Int.toNat_natCast, falses, h1, h2, s1]
  refine ⟨s, rfl, ?_⟩
  rw [List.nil_append] at s2
  unfold reachL
  rw [← picks_congr (p := iterF es N (iniF l fun _ => false)) fun j _ hj => eq_reachB (iterF_iff hl hok (by omega))]
  exact s2
/-! ### the program -/
theorem y63_1_is {g : FuncId} {a c : List U} {p : Nat → Bool} (hN : N ≤ 60) (hp : ∀ s : Nat, s < N → ycall M g (a ++ [uI (s : Int)] ++ c) = some (.val (.c (.bool (p s))))) : ∀ (d k : Nat) (out : Sx) (lo : List Int), k + d = N → SxI out lo → lo.length ≤ k → ∃ s, y63_1 M (.fn g a c) (N : Int) (k : Int) out = some (.sl s) ∧ SxI s (lo ++ picks p d k) := by
  intro d
  induction d with
  | zero =>
    intro k out lo hk ho hn
    rw [y63_1_eq]
    simp only [show ¬ ((k : Int) < (N : Int)) by omega, decide_false, Bool.false_eq_true, if_false, ho.scals, if_true, picks, List.append_nil]
    exact ⟨out, rfl, ho⟩
  | succ d ih =>
    intro k out lo hk ho hn
    have hkN : k < N := by omega
    have hp' := hp k hkN
    simp only [uI] at hp'
    rw [y63_1_eq]
    simp only [show ((k : Int) < (N : Int)) by omega, decide_true, if_true, U.asF, Option.bind_some, hp', toU_val, asB_c, picks]
    cases hpk : p k with
    | true =>
      obtain ⟨s', s1, s2⟩ := ho.app (k : Int) (by omega)
      obtain ⟨s, k1, k2⟩ := ih (k + 1) s' (lo ++ [(k : Int)]) (by omega) s2 (by simp; omega)
      simp only [if_true, s1, Option.bind_some, y63_2_eq, wrap_succ (show k ≤ 1000000000 by omega), k1]
      exact ⟨s, rfl, by simpa using k2⟩
    | false =>
      obtain ⟨s, k1, k2⟩ := ih (k + 1) out lo (by omega) ho (by omega)
      simp only [Bool.false_eq_true, if_false, y63_2_eq, wrap_succ (show k ≤ 1000000000 by omega), k1]
      exact ⟨s, rfl, by simpa using k2⟩
theorem y63_is {g : FuncId} {a c : List U} {p : Nat → Bool} (hN : N ≤ 60) (hp : ∀ s : Nat, s < N → ycall M g (a ++ [uI (s : Int)] ++ c) = some (.val (.c (.bool (p s))))) : ∃ s, y63 M (N : Int) (.fn g a c) = some (.sl s) ∧ SxI s (picks p N 0) := by
  obtain ⟨s, s1, s2⟩ := y63_1_is (M := M) hN hp N 0 ⟨false, 0, []⟩ [] (by omega) SxI.nil (by simp)
  rw [y63_eq]
  exact ⟨s, s1, by simpa using s2⟩
theorem idx_uB {q : Nat → Bool} {s : Nat} (h : s < N) : U.idx 1 (Sx.fz (uB N q)) (s : Int) = some (.c (.bool (q s))) := by
  simp [U.idx, Sx.fz, uB, U.asL, elU, h, U.size, U.cells]
theorem y64_is {q : Nat → Bool} {s : Nat} (h : s < N) : ycall M 64 ([] ++ [uI (s : Int)] ++ [.ref (.st [Sx.fz (uB N q)]) 0]) = some (.val (.c (.bool (q s)))) := by
  show y64 M (s : Int) (.ref (.st [Sx.fz (uB N q)]) 0) = _
  rw [y64_eq]
  simp only [U.asR, Option.bind_some, U.cell, U.cells, List.getElem?_cons_zero, idx_uB h, asB_c]
def deadB (es : List E3) (s : Nat) : Bool := (ixs gOut es s es.length).isEmpty
theorem y65_is {q : Nat → Bool} {s : Nat} {u1 : U} (h : s < N) : ycall M 65 ([] ++ [uI (s : Int)] ++ [.ref (.st [Sx.fz (uB N q)]) 0, .ref (.st [openU N u1 b2 es]) 0]) = some (.val (.c (.bool (q s && deadB es s)))) := by
  obtain ⟨v, v0, v1, v2, v3, v4, v5⟩ := openU_fields N u1 b2 es
  show y65 M (s : Int) (.ref (.st [Sx.fz (uB N q)]) 0) (.ref (.st [openU N u1 b2 es]) 0) = _
  have a1 : U.asR (.ref (.st [Sx.fz (uB N q)]) 0) = some (.st [Sx.fz (uB N q)], 0) := rfl
  have a2 : U.asR (.ref (.st [openU N u1 b2 es]) 0) = some (.st [openU N u1 b2 es], 0) := rfl
  have a3 : U.cell (.st [Sx.fz (uB N q)]) 0 = some (Sx.fz (uB N q)) := rfl
  have a4 : U.cell (.st [openU N u1 b2 es]) 0 = some (openU N u1 b2 es) := rfl
  rw [y65_eq]
  simp only [a1, a2, a3, a4, Option.bind_some, idx_uB h, cell_c, asB_c, v0, v4, idx_out h, cell_rowU, len_rowU]
  have hd : decide ((((ixs gOut es s es.length).length : Nat) : Int) = 0) = deadB es s := by
    unfold deadB
    cases ixs gOut es s es.length <;> simp
    omega
  rw [hd]
  cases q s <;> simp
noncomputable def deadL (N : Nat) (l : List Int) (es : List E3) : List Int := picks (fun s => reachB l es s && deadB es s) N 0
theorem gErr_nat {n : Int} (h : gErr n l es = 0) : ∃ N : Nat, n = (N : Int) ∧ N ≤ 60 ∧ es.length ≤ 2000 ∧ (∀ x ∈ l, 0 ≤ x ∧ x < (N : Int)) ∧ (∀ e ∈ es, eOK (N : Int) e = true) ∧ edgesOK (N : Int) none es = true := by
  obtain ⟨g1, g2, g3, g4⟩ := gErr_ok h
  simp only [btw, decide_eq_true_eq] at g1
  obtain ⟨N, rfl⟩ := Int.eq_ofNat_of_zero_le g1.1
  refine ⟨N, rfl, by omega, g4, fun x hx => ?_, edgesOK_all g3, g3⟩
  have : ∀ {l : List Int} {p : Option Int}, ascOK (N : Int) p l = true → ∀ x ∈ l, btw x 0 ((N : Int) - 1) = true := by
    intro l
    induction l with
    | nil => intro p _ x hx; cases hx
    | cons y l ih =>
      intro p h x hx
      simp only [ascOK, Bool.and_eq_true] at h
      rcases List.mem_cons.1 hx with rfl | hx
      · exact h.1.1
      · exact ih h.2 x hx
  have := this g2 x hx
  simp only [btw, decide_eq_true_eq] at this
  omega
theorem y24_is (hM : M.ext = yExt2) {n : Int} (hlen : l.length ≤ 400) (he : es.length ≤ 1000000) (hw : b1 = false → l = []) :
    ∃ b', y24 M n (uIs b1 l) (uEs b2 es) = some (.tup [uIs b' (if gErr n l es = 0 then reachL n.toNat l es else []), uI (gErr n l es)]) := by
  rw [y24_eq]
  simp only [y48_is (M := M) (show l.length ≤ 1000000 by omega) he, Option.bind_some, toU_val, asI_c]
  by_cases h0 : gErr n l es = 0
  · obtain ⟨N, rfl, hN, g4, hl, hok, hed⟩ := gErr_nat h0
    obtain ⟨q, q1, q2⟩ := y62_is (M := M) (b2 := b2) hN g4 hlen hw hl hok
    have ho : U.one (openU N (uIs b1 l) b2 es) = some (openU N (uIs b1 l) b2 es) := rfl
    obtain ⟨s, s1, s2⟩ := y63_is (M := M) (N := N) (g := 64) (a := []) (c := [.ref (.st [Sx.fz (uB N q)]) 0]) (p := q) hN fun s hs => y64_is hs
    have hr : reachL N l es = picks q N 0 := by
      unfold reachL
      exact (picks_congr fun j _ hj => eq_reachB (q2 j (by omega))).symm
    simp only [h0, decide_true, Bool.not_true, Bool.false_eq_true, if_false, y61_is hM hN g4 hed, Option.bind_some, toU_val, ho, q1, asSl_sl, s1, if_true, Int.toNat_natCast, hr, s2.fz]
    exact ⟨s.b, rfl⟩
  · simp only [h0, decide_false, Bool.not_false, if_true, if_false]
    exact ⟨false, rfl⟩
theorem y25_is (hM : M.ext = yExt2) {n : Int} (hlen : l.length ≤ 400) (he : es.length ≤ 1000000) (hw : b1 = false → l = []) :
    ∃ b', y25 M n (uIs b1 l) (uEs b2 es) = some (.tup [uIs b' (if gErr n l es = 0 then deadL n.toNat l es else []), uI (gErr n l es)]) := by
  rw [y25_eq]
  simp only [y48_is (M := M) (show l.length ≤ 1000000 by omega) he, Option.bind_some, toU_val, asI_c]
  by_cases h0 : gErr n l es = 0
  · obtain ⟨N, rfl, hN, g4, hl, hok, hed⟩ := gErr_nat h0
    obtain ⟨q, q1, q2⟩ := y62_is (M := M) (b2 := b2) hN g4 hlen hw hl hok
    have ho : U.one (openU N (uIs b1 l) b2 es) = some (openU N (uIs b1 l) b2 es) := rfl
    obtain ⟨s, s1, s2⟩ := y63_is (M := M) (N := N) (g := 65) (a := []) (c := [.ref (.st [Sx.fz (uB N q)]) 0, .ref (.st [openU N (uIs b1 l) b2 es]) 0]) (p := fun s => q s && deadB es s) hN fun s hs => y65_is hs
    have hr : deadL N l es = picks (fun s => q s && deadB es s) N 0 := by
      unfold deadL
      exact (picks_congr fun j _ hj => by rw [eq_reachB (q2 j (by omega))]).symm
    simp only [h0, decide_true, Bool.not_true, Bool.false_eq_true, if_false, y61_is hM hN g4 hed, Option.bind_some, toU_val, ho, q1, asSl_sl, s1, if_true, Int.toNat_natCast, hr, s2.fz]
    exact ⟨s.b, rfl⟩
  · simp only [h0, decide_false, Bool.not_false, if_true, if_false]
    exact ⟨false, rfl⟩
/-! ### deadlocks of the reference -/
theorem picks_filter {p : Nat → Bool} {r : Int → Bool} {r' : Nat → Bool} : ∀ {d k : Nat}, (∀ j : Nat, k ≤ j → j < k + d → r (j : Int) = r' j) → (picks p d k).filter r = picks (fun s => p s && r' s) d k
  | 0, k, _ => rfl
  | d + 1, k, h => by
    have h0 := h k (by omega) (by omega)
    simp only [picks, List.filter_append, picks_filter (d := d) (k := k + 1) fun j h1 h2 => h j (by omega) (by omega)]
    congr 1
    by_cases hp : p k = true
    · by_cases hr : r' k = true
      · simp [hp, hr, h0]
      · simp [hp, hr, h0]
    · simp [hp]
theorem en_dead {N : Nat} (hok : ∀ e ∈ es, eOK (N : Int) e = true) (s : Nat) : (enabled es (s : Int)).isEmpty = deadB es s := by
  rw [Bool.eq_iff_iff, List.isEmpty_iff]
  unfold deadB
  rw [List.isEmpty_iff]
  constructor
  · intro h
    refine List.eq_nil_iff_forall_not_mem.2 fun i hi => ?_
    obtain ⟨j, e, h1, h2, h3⟩ := mem_out.1 hi
    have hg := eOK_good (hok e (List.mem_of_getElem? h2))
    obtain ⟨⟨_, _, g3, g4⟩, _⟩ := hg
    obtain ⟨a, ha⟩ := Int.eq_ofNat_of_zero_le g3
    have : (a : Int) ∈ enabled es (s : Int) := mem_picks.2 ⟨a, by omega, by omega, rfl, by
      unfold enB
      have hm : (j : Int) ∈ stepsL es (s : Int) (a : Int) := mem_sel.2 ⟨j, (List.getElem?_eq_some_iff.1 h2).1, rfl, by rw [h2]; simp [atSt, h3, ha]⟩
      cases hst : stepsL es (s : Int) (a : Int) with
      | nil => rw [hst] at hm; cases hm
      | cons x l => rfl⟩
    rw [h] at this; cases this
  · intro h
    refine List.eq_nil_iff_forall_not_mem.2 fun x hx => ?_
    obtain ⟨a, _, _, rfl, h4⟩ := mem_picks.1 hx
    unfold enB at h4
    cases hst : stepsL es (s : Int) (a : Int) with
    | nil => rw [hst] at h4; cases h4
    | cons y l' =>
      have : y ∈ stepsL es (s : Int) (a : Int) := by rw [hst]; simp
      obtain ⟨j, h1, h2, h3⟩ := mem_sel.1 this
      cases he : es[j]? with
      | none => rw [he] at h3; cases h3
      | some e =>
        rw [he] at h3
        simp only [Option.any_some, atSt, Bool.and_eq_true, decide_eq_true_eq] at h3
        have : (j : Int) ∈ ixs gOut es s es.length := mem_out.2 ⟨j, e, rfl, he, h3.1⟩
        rw [h] at this; cases this
theorem y29_1_is (he : es.length ≤ 2000) {g0 : Int} {g1 : U} {lr : List Int} {ls : Sx} (hls : SxI ls lr) (hn : lr.length ≤ 1000) : ∀ (d k : Nat) (out : Sx), k + d = lr.length → SxI out ((lr.take k).filter fun x => (enabled es x).isEmpty) →
    ∃ s, y29_1 M g0 g1 (uEs b2 es) (k : Int) ls out = some (.sl s) ∧ SxI s (lr.filter fun x => (enabled es x).isEmpty) := by
  intro d
  induction d with
  | zero =>
    intro k out hk ho
    rw [List.take_of_length_le (by omega)] at ho
    rw [y29_1_eq]
    simp only [hls.len, show ¬ ((k : Int) < ((lr.length : Nat) : Int)) by omega, decide_false, Bool.false_eq_true, if_false, ho.scals, if_true]
    exact ⟨out, rfl, ho⟩
  | succ d ih =>
    intro k out hk ho
    have hlt : k < lr.length := by omega
    obtain ⟨g1', g2'⟩ := hls.get hlt
    obtain ⟨t, t1, t2⟩ := y42_is (M := M) (b2 := b2) he (g0 := g0) (x := lr[k]) (g1 := g1)
    have hd : decide ((((enabled es lr[k]).length : Nat) : Int) = 0) = (enabled es lr[k]).isEmpty := by
      cases enabled es lr[k] <;> simp
      omega
    rw [y29_1_eq]
    simp only [hls.len, show ((k : Int) < ((lr.length : Nat) : Int)) by omega, decide_true, if_true, g1', g2', Option.bind_some, cell_c, asI_c, t1, asSl_sl, t2.len]
    rw [hd]
    have hf : (lr.take (k + 1)).filter (fun x => (enabled es x).isEmpty) = (lr.take k).filter (fun x => (enabled es x).isEmpty) ++ (if (enabled es lr[k]).isEmpty = true then [lr[k]] else []) := by
      rw [List.take_succ_eq_append_getElem hlt, List.filter_append]
      congr 1
      by_cases h : (enabled es lr[k]).isEmpty = true
      · rw [if_pos h]; show (match (enabled es lr[k]).isEmpty with | true => _ | false => _) = _; rw [h]; rfl
      · rw [if_neg h]; simp only [Bool.not_eq_true] at h; show (match (enabled es lr[k]).isEmpty with | true => _ | false => _) = _; rw [h]; rfl
    cases hp : (enabled es lr[k]).isEmpty with
    | true =>
      have hfl : ((lr.take k).filter fun x => (enabled es x).isEmpty).length ≤ 1000 := by
        have h1 := List.length_filter_le (fun x => (enabled es x).isEmpty) (lr.take k)
        have h2 : (lr.take k).length ≤ k := by simp; omega
        omega
      obtain ⟨s', s1, s2⟩ := ho.app lr[k] (by omega)
      obtain ⟨s, k1, k2⟩ := ih (k + 1) s' (by omega) (by rw [hf, hp]; exact s2)
      simp only [if_true, s1, Option.bind_some, y29_2_eq, wrap_succ (show k ≤ 1000000000 by omega), k1]
      exact ⟨s, rfl, k2⟩
    | false =>
      obtain ⟨s, k1, k2⟩ := ih (k + 1) out (by omega) (by rw [hf, hp]; simpa using ho)
      simp only [Bool.false_eq_true, if_false, y29_2_eq, wrap_succ (show k ≤ 1000000000 by omega), k1]
      exact ⟨s, rfl, k2⟩
theorem y29_is (hN : N ≤ 60) (he : es.length ≤ 2000) (hn : l.length ≤ 1000) (hl : ∀ x ∈ l, 0 ≤ x ∧ x < (N : Int)) (hok : ∀ e ∈ es, eOK (N : Int) e = true) : ∃ s, y29 M (N : Int) (uIs b1 l) (uEs b2 es) = some (.sl s) ∧ SxI s (deadL N l es) := by
  obtain ⟨s, s1, s2⟩ := y28_is (M := M) (b1 := b1) (b2 := b2) hN he hn hl hok
  obtain ⟨t, t1, t2⟩ := y29_1_is (M := M) (b2 := b2) he (g0 := (N : Int)) (g1 := uIs b1 l) s2 (by have := picks_len (reachB l es) N 0; unfold reachL; omega) (reachL N l es).length 0 ⟨false, 0, []⟩ (by omega) (by simpa using SxI.nil)
  rw [y29_eq]
  simp only [s1, Option.bind_some, asSl_sl]
  refine ⟨t, t1, ?_⟩
  have : deadL N l es = (reachL N l es).filter fun x => (enabled es x).isEmpty := by
    unfold deadL reachL
    exact (picks_filter fun j _ _ => en_dead hok j).symm
  rw [this]
  exact t2
end
end Go.Proofs.Ythjjbkiejkhjfaa.R
