/-
  CHAPTER 19: visible actions; the law.
-/
import Derived.Test.YthjjbkiejkhjfaaWb
namespace Go.Proofs.Ythjjbkiejkhjfaa.R
open Go Go.Proofs.Ythjjbkiejkhjfaa.Vm
set_option linter.unusedVariables false
set_option linter.unusedSimpArgs false
variable {M : YM}
def at0 (l : List Int) (i : Nat) : Int := l.getD i 0
theorem idx_at {b : Bool} {l : List Int} {x : Int} (h0 : 0 ≤ x) (h : x < l.length) : U.idx 1 (uIs b l) x = some (uI (at0 l x.toNat)) := by
  obtain ⟨k, rfl⟩ := Int.eq_ofNat_of_zero_le h0
  have hk : k < l.length := by omega
  rw [idx_uIs (get?_of_lt hk), Int.toNat_natCast]
  simp [at0, hk]
/-- twelve truth values -/
def bV (p : Nat → Bool) : U := .st ((List.range 12).map fun a => .c (.bool (p a)))
theorem bV_get {p : Nat → Bool} {a : Nat} (h : a < 12) : ((List.range 12).map fun a => U.c (.bool (p a)))[a]? = some (.c (.bool (p a))) := by
  simp [List.getElem?_map, h]
theorem cell_bV {p : Nat → Bool} {a : Nat} (h : a < 12) : U.cell (bV p) a = some (.c (.bool (p a))) := bV_get h
theorem setc_bV {p : Nat → Bool} {a : Nat} {q : Bool} (h : a < 12) : U.setc (bV p) a (.c (.bool q)) = some (bV fun j => if j = a then q else p j) := by
  simp only [bV, U.setc, U.size]
  simp [h]
  refine List.ext_getElem? fun j => ?_
  rw [List.getElem?_set]
  by_cases hj : j < 12
  · by_cases hja : a = j
    · subst hja; simp [hj]
    · have : ¬ j = a := fun e => hja e.symm
      simp [hja, this, hj]
  · have : ¬ a = j := by omega
    simp [this, hj]
theorem struct_bV (p : Nat → Bool) : ∃ f, U.struct (bV p) 0 ks3 = some f ∧ ∀ a, a < 12 → f a = .c (.bool (p a)) := by
  refine ⟨fun i => ((List.range 12).map fun a => U.c (.bool (p a))).getD (0 + i) (.c .junk), ?_, fun a ha => ?_⟩
  · simp [U.struct, bV, ks3, hasKs, U.hasK, List.range, List.range.loop]
  · show ((List.range 12).map fun a => U.c (.bool (p a))).getD (0 + a) (.c .junk) = _
    rw [Nat.zero_add, List.getD_eq_getElem?_getD, bV_get ha]
    rfl
theorem bV_lit (p : Nat → Bool) : bV p = .st [.c (.bool (p 0)), .c (.bool (p 1)), .c (.bool (p 2)), .c (.bool (p 3)), .c (.bool (p 4)), .c (.bool (p 5)), .c (.bool (p 6)), .c (.bool (p 7)), .c (.bool (p 8)), .c (.bool (p 9)), .c (.bool (p 10)), .c (.bool (p 11))] := rfl
theorem exact_bV (p : Nat → Bool) : ∃ f, U.exact (bV p) ks3 = some f ∧ ∀ a, a < 12 → f a = .c (.bool (p a)) := by
  refine ⟨fun i => ((List.range 12).map fun a => U.c (.bool (p a))).getD i (.c .junk), ?_, fun a ha => ?_⟩
  · simp [U.exact, bV, ks3, hasKs, U.hasK, List.range, List.range.loop]
  · show ((List.range 12).map fun a => U.c (.bool (p a))).getD a (.c .junk) = _
    rw [List.getD_eq_getElem?_getD, bV_get ha]
    rfl
def shows (lab : List Int) (a : Int) (e : E3) : Bool := decide (e.a = a) && !decide (at0 lab e.f.toNat = at0 lab e.t.toNat)
def visB (lab : List Int) (es : List E3) (a : Nat) : Bool := es.any (shows lab a)
/-- those of twelve for which something holds -/
def picks (p : Nat → Bool) : Nat → Nat → List Int
  | 0, _ => []
  | d + 1, k => (if p k = true then [(k : Int)] else []) ++ picks p d (k + 1)
section
variable {N : Nat} {b1 b2 b3 : Bool} {l lab : List Int} {es : List E3}
theorem y66_1_is (hlab : lab.length = N) (he : es.length ≤ 2000) (hok : ∀ e ∈ es, eOK (N : Int) e = true) {c0 c1 c2 c3 c4 c5 c6 c7 c8 c9 c10 c11 : Bool} : ∀ (d k : Nat) (p : Nat → Bool), k + d = es.length →
    y66_1 M (uIs b3 lab) c0 c1 c2 c3 c4 c5 c6 c7 c8 c9 c10 c11 (uEs b2 es) (es.length : Int) (k : Int) (bV p) = some (.val (bV fun a => p a || visB lab (es.drop k) a)) := by
  intro d
  induction d with
  | zero =>
    intro k p hk
    obtain ⟨f, f0, f1⟩ := struct_bV p
    rw [y66_1_eq, List.drop_of_length_le (by omega)]
    simp only [show ¬ ((k : Int) < es.length) by omega, decide_false, Bool.false_eq_true, if_false, f0, Option.bind_some, f1 0 (by omega), f1 1 (by omega), f1 2 (by omega), f1 3 (by omega), f1 4 (by omega), f1 5 (by omega), f1 6 (by omega), f1 7 (by omega), f1 8 (by omega), f1 9 (by omega), f1 10 (by omega), f1 11 (by omega), visB, List.any_nil, Bool.or_false]
    rfl
  | succ d ih =>
    intro k p hk
    have hlt : k < es.length := by omega
    obtain ⟨⟨g1, g2, g3, g4⟩, g5, g6⟩ := eOK_good (hok _ (List.getElem_mem hlt))
    obtain ⟨f, f0, f1, f2, f3⟩ := struct_uE es[k]
    obtain ⟨a, ha⟩ := Int.eq_ofNat_of_zero_le g3
    have ha12 : a < 12 := by omega
    rw [y66_1_eq, List.drop_eq_getElem_cons hlt]
    have hq : ∀ F : Bool → YRs, ((if p a = false then
        (U.idx 1 (uIs b3 lab) es[k].f).bind fun v5 =>
        (U.idx 1 (uIs b3 lab) es[k].t).bind fun v6 =>
        (U.cell v5 0).bind fun c7 =>
        (U.asI .i64 c7).bind fun n8 =>
        (U.cell v6 0).bind fun c9 =>
        (U.asI .i64 c9).bind fun n10 => some (!decide (n8 = n10))
      else some (p a)).bind F) = F (p a || !decide (at0 lab es[k].f.toNat = at0 lab es[k].t.toNat)) := by
      intro F
      simp only [idx_at (b := b3) g1 (by omega : es[k].f < (lab.length : Int)), idx_at (b := b3) g5 (by omega : es[k].t < (lab.length : Int)), Option.bind_some, cell_c, asI_c]
      cases p a <;> simp
    simp only [show ((k : Int) < es.length) by omega, decide_true, if_true, idx_uEs (get?_of_lt hlt), Option.bind_some, f0, f1, f2, f3, i_uI, ha, Int.toNat_natCast, Nat.mul_one, Nat.zero_add, cell_bV ha12, asB_c, show (0 : Int) ≤ (a : Int) ∧ (a : Int) < ((12 : Nat) : Int) from ⟨by omega, by omega⟩, and_self]
    rw [hq]
    simp only [setc_bV ha12, Option.bind_some, wrap_succ (show k ≤ 1000000000 by omega), ih (k + 1) _ (by omega)]
    congr 2
    unfold bV
    congr 1
    refine List.map_congr_left fun j _ => ?_
    simp only [visB, List.any_cons, shows, ha]
    by_cases hj : j = a
    · subst hj
      simp [Bool.or_assoc]
    · have : ¬ (a : Int) = (j : Int) := by omega
      simp [hj, this]
theorem y66_is (hlab : lab.length = N) (he : es.length ≤ 2000) (hok : ∀ e ∈ es, eOK (N : Int) e = true) {u1 : U} : y66 M (openU N u1 b2 es) (uIs b3 lab) = some (.val (bV (visB lab es))) := by
  have h1 := y66_1_is (M := M) (b2 := b2) (b3 := b3) (c0 := false) (c1 := false) (c2 := false) (c3 := false) (c4 := false) (c5 := false) (c6 := false) (c7 := false) (c8 := false) (c9 := false) (c10 := false) (c11 := false) hlab he hok es.length 0 (fun _ => false) (by omega)
  rw [List.drop_zero, show ((0 : Nat) : Int) = 0 from rfl] at h1
  have hl : (uEs b2 es).len = some es.length := len_uEs _ _
  simp only [Bool.false_or] at h1
  obtain ⟨v, v1, v2⟩ : ∃ v, (openU N u1 b2 es).asR = some (v, 0) ∧ U.cell v (0 + 2) = some (uEs b2 es) := ⟨_, rfl, rfl⟩
  rw [y66_eq]
  simp only [v1, v2, Option.bind_some, hl]
  exact h1
theorem y31_1_is (p : Nat → Bool) : ∀ (d k : Nat) (out : Sx), k + d = 12 → (out.b = false ∨ out.sz = 1) → out.es.length ≤ k → (out.b = false → out.es = []) →
    ∃ b', y31_1 M (p 0) (p 1) (p 2) (p 3) (p 4) (p 5) (p 6) (p 7) (p 8) (p 9) (p 10) (p 11) (k : Int) out = some (.tup [.sl b' (out.es ++ (picks p d k).map uI), uI 0]) := by
  intro d
  induction d with
  | zero =>
    intro k out hk hb hn he
    rw [y31_1_eq]
    simp only [show ¬ ((k : Int) < 12) by omega, decide_false, Bool.false_eq_true, if_false, picks, List.map_nil, List.append_nil]
    exact ⟨out.b, rfl⟩
  | succ d ih =>
    intro k out hk hb hn he
    have hk12 : k < 12 := by omega
    have hget : ([.c (.bool (p 0)), .c (.bool (p 1)), .c (.bool (p 2)), .c (.bool (p 3)), .c (.bool (p 4)), .c (.bool (p 5)), .c (.bool (p 6)), .c (.bool (p 7)), .c (.bool (p 8)), .c (.bool (p 9)), .c (.bool (p 10)), .c (.bool (p 11))] : List U)[((k : Int)).toNat]? = some (.c (.bool (p k))) := by
      rw [Int.toNat_natCast]
      exact bV_get hk12
    have happ : Sx.app out 1 [.c (.int .i64 (k : Int))] = some ⟨true, 1, out.es ++ [uI k]⟩ := app_one rfl hb (by omega)
    rw [y31_1_eq]
    simp only [show ((k : Int) < 12) by omega, decide_true, if_true, show (0 : Int) ≤ (k : Int) ∧ (k : Int) < ((12 : Nat) : Int) from ⟨by omega, by omega⟩, and_self, hget, Option.bind_some, asB_c, picks]
    cases hp : p k with
    | true =>
      obtain ⟨b', h1⟩ := ih (k + 1) ⟨true, 1, out.es ++ [uI k]⟩ (by omega) (.inr rfl) (by simp; omega) (fun h => by cases h)
      simp only [if_true, happ, Option.bind_some, y31_2_eq, wrap_succ (show k ≤ 1000000000 by omega), h1]
      exact ⟨b', by simp⟩
    | false =>
      obtain ⟨b', h1⟩ := ih (k + 1) out (by omega) hb (by omega) he
      simp only [Bool.false_eq_true, if_false, y31_2_eq, wrap_succ (show k ≤ 1000000000 by omega), h1]
      exact ⟨b', by simp⟩
/-- the error of a graph with labels -/
def glErr (n : Int) (l : List Int) (es : List E3) (lab : List Int) : Int := if gErr n l es = 0 then lErr n lab else gErr n l es
theorem lErr_len {n : Int} (h : lErr n lab = 0) : (lab.length : Int) = n := by
  unfold lErr at h
  split at h
  · assumption
  · cases h
theorem y31_is (hM : M.ext = yExt2) {n : Int} (hl : l.length ≤ 1000000) (he : es.length ≤ 1000000) (hb : lab.length ≤ 1000000) :
    ∃ b', y31 M n (uIs b1 l) (uEs b2 es) (uIs b3 lab) = some (.tup [.sl b' (if glErr n l es lab = 0 then (picks (visB lab es) 12 0).map uI else []), uI (glErr n l es lab)]) := by
  have hlit := fun a b => y49_lit (M := M) [a, b] (by simp)
  simp only [List.map_cons, List.map_nil, uI] at hlit
  rw [y31_eq]
  simp only [y48_is hl he, y50_is hb, Option.bind_some, toU_val, asI_c, hlit]
  have hf : firstErr [gErr n l es, lErr n lab] = glErr n l es lab := by
    unfold glErr
    by_cases h1 : gErr n l es = 0
    · by_cases h2 : lErr n lab = 0 <;> simp [firstErr, h1, h2]
    · simp [firstErr, h1]
  rw [hf]
  by_cases h0 : glErr n l es lab = 0
  · have hg : gErr n l es = 0 := by unfold glErr at h0; split at h0 <;> assumption
    have hle : lErr n lab = 0 := by unfold glErr at h0; rw [if_pos hg] at h0; exact h0
    obtain ⟨g1, _, g3, g4⟩ := gErr_ok hg
    have hlen := lErr_len hle
    simp only [btw, decide_eq_true_eq] at g1
    obtain ⟨N, rfl⟩ := Int.eq_ofNat_of_zero_le g1.1
    obtain ⟨f, f0, f1⟩ := exact_bV (visB lab es)
    obtain ⟨b', h1⟩ := y31_1_is (M := M) (visB lab es) 12 0 ⟨false, 0, []⟩ (by omega) (.inl rfl) (by simp) (fun _ => rfl)
    rw [show ((0 : Nat) : Int) = 0 from rfl] at h1
    have h66 := y66_is (M := M) (b2 := b2) (b3 := b3) (u1 := uIs b1 l) (show lab.length = N by omega) g4 (edgesOK_all g3)
    have ho : U.one (openU N (uIs b1 l) b2 es) = some (openU N (uIs b1 l) b2 es) := rfl
    simp only [h0, decide_true, Bool.not_true, Bool.false_eq_true, if_false, y61_is hM (show N ≤ 60 by omega) g4 g3, Option.bind_some, toU_val, ho, h66, f0, f1 0 (by omega), f1 1 (by omega), f1 2 (by omega), f1 3 (by omega), f1 4 (by omega), f1 5 (by omega), f1 6 (by omega), f1 7 (by omega), f1 8 (by omega), f1 9 (by omega), f1 10 (by omega), f1 11 (by omega), U.b, h1, if_true]
    exact ⟨b', rfl⟩
  · simp only [h0, decide_false, Bool.not_false, if_true, if_false]
    exact ⟨false, rfl⟩
theorem y32_2_is (hlab : lab.length = N) (he : es.length ≤ 2000) (hok : ∀ e ∈ es, eOK (N : Int) e = true) {g0 : Int} {g1 : U} {a : Nat} {out : Sx} (ha : a < 12) (hb : out.b = false ∨ out.sz = 1) (hn : out.es.length ≤ 1000) : ∀ (d k : Nat) (is : Bool), k + d = es.length →
    y32_2 M (uIs b3 lab) g0 g1 (uEs b2 es) (a : Int) is (k : Int) out = if (is || visB lab (es.drop k) a) = true then y32_1 M (uIs b3 lab) g0 g1 (uEs b2 es) ((a + 1 : Nat) : Int) ⟨true, 1, out.es ++ [uI a]⟩ else y32_1 M (uIs b3 lab) g0 g1 (uEs b2 es) ((a + 1 : Nat) : Int) out := by
  intro d
  have happ : Sx.app out 1 [.c (.int .i64 (a : Int))] = some ⟨true, 1, out.es ++ [uI a]⟩ := app_one rfl hb (by omega)
  induction d with
  | zero =>
    intro k is hk
    rw [y32_2_eq, List.drop_of_length_le (by omega)]
    simp only [len_uEs, Option.bind_some, show ¬ ((k : Int) < es.length) by omega, decide_false, Bool.false_eq_true, if_false, visB, List.any_nil, Bool.or_false, happ, y32_3_eq, wrap_succ (show a ≤ 1000000000 by omega)]
  | succ d ih =>
    intro k is hk
    have hlt : k < es.length := by omega
    obtain ⟨⟨g1, g2, g3, g4⟩, g5, g6⟩ := eOK_good (hok _ (List.getElem_mem hlt))
    rw [y32_2_eq, List.drop_eq_getElem_cons hlt]
    simp only [len_uEs, Option.bind_some, show ((k : Int) < es.length) by omega, decide_true, if_true, idx_uEs (get?_of_lt hlt), cell_uE0, cell_uE1, cell_uE2, asI_c, idx_at (b := b3) g1 (by omega : es[k].f < (lab.length : Int)), idx_at (b := b3) g5 (by omega : es[k].t < (lab.length : Int)), cell_c, wrap_succ (show k ≤ 1000000000 by omega)]
    have hv : visB lab (es[k] :: es.drop (k + 1)) a = (shows lab a es[k] || visB lab (es.drop (k + 1)) a) := rfl
    rw [hv]
    cases is with
    | true => simp only [Bool.true_eq_false, if_false, Option.bind_some, ih (k + 1) _ (by omega), Bool.true_or, if_true]
    | false =>
      by_cases hA : es[k].a = (a : Int)
      · simp only [if_true, hA, decide_true, Option.bind_some, ih (k + 1) _ (by omega), shows, Bool.true_and, Bool.false_or]
      · simp only [if_true, hA, decide_false, Bool.false_eq_true, if_false, Option.bind_some, ih (k + 1) _ (by omega), shows, Bool.false_and, Bool.false_or]
theorem y32_1_is (hlab : lab.length = N) (he : es.length ≤ 2000) (hok : ∀ e ∈ es, eOK (N : Int) e = true) {g0 : Int} {g1 : U} : ∀ (d a : Nat) (out : Sx), a + d = 12 → (out.b = false ∨ out.sz = 1) → out.es.length ≤ a → scals out.es = true →
    ∃ s : Sx, y32_1 M (uIs b3 lab) g0 g1 (uEs b2 es) (a : Int) out = some (.sl s) ∧ s.es = out.es ++ (picks (visB lab es) d a).map uI := by
  intro d
  induction d with
  | zero =>
    intro a out ha hb hn hs
    rw [y32_1_eq]
    simp only [show ¬ ((a : Int) < 12) by omega, decide_false, Bool.false_eq_true, if_false, hs, if_true, picks, List.map_nil, List.append_nil]
    exact ⟨out, rfl, rfl⟩
  | succ d ih =>
    intro a out ha hb hn hs
    have h2 := y32_2_is (M := M) (b2 := b2) (b3 := b3) (g0 := g0) (g1 := g1) hlab he hok (show a < 12 by omega) hb (by omega) es.length 0 false (by omega)
    rw [show ((0 : Nat) : Int) = 0 from rfl, List.drop_zero, Bool.false_or] at h2
    rw [y32_1_eq]
    simp only [show ((a : Int) < 12) by omega, decide_true, if_true, h2, picks]
    cases hv : visB lab es a with
    | true =>
      have hs2 : scals (out.es ++ [uI a]) = true := by
        have : ∀ l : List U, scals l = true → scals (l ++ [uI a]) = true := by
          intro l
          induction l with
          | nil => intro _; rfl
          | cons x l ih => intro h; simp only [List.cons_append, scals, Bool.and_eq_true] at h ⊢; exact ⟨h.1, ih h.2⟩
        exact this _ hs
      obtain ⟨s, s1, s2⟩ := ih (a + 1) ⟨true, 1, out.es ++ [uI a]⟩ (by omega) (.inr rfl) (by simp; omega) hs2
      exact ⟨s, by simp only [if_true, s1], by rw [s2]; simp⟩
    | false =>
      obtain ⟨s, s1, s2⟩ := ih (a + 1) out (by omega) hb (by omega) hs
      exact ⟨s, by simp only [Bool.false_eq_true, if_false, s1], by rw [s2]; simp⟩
theorem y32_is (hlab : lab.length = N) (he : es.length ≤ 2000) (hok : ∀ e ∈ es, eOK (N : Int) e = true) {g0 : Int} {g1 : U} : ∃ s : Sx, y32 M g0 g1 (uEs b2 es) (uIs b3 lab) = some (.sl s) ∧ s.es = (picks (visB lab es) 12 0).map uI := by
  obtain ⟨s, s1, s2⟩ := y32_1_is (M := M) (b2 := b2) (b3 := b3) (g0 := g0) (g1 := g1) hlab he hok 12 0 ⟨false, 0, []⟩ (by omega) (.inl rfl) (by simp) rfl
  rw [y32_eq]
  exact ⟨s, s1, by simpa using s2⟩
theorem picks_len (p : Nat → Bool) : ∀ d k, (picks p d k).length ≤ d
  | 0, _ => Nat.le_refl _
  | d + 1, k => by
    have := picks_len p d (k + 1)
    simp only [picks, List.length_append]
    split <;> simp <;> omega
/-- the law of visible actions, after awake -/
theorem visible_ok (hM : M.ext = yExt2) (h10 : y10 M = some (.val (.c (.bool true)))) {n : Int} : y5 M n (uIs b1 l) (uEs b2 es) (uIs b3 lab) = some (.val (.c (.bool true))) := by
  rw [y5_eq]
  simp only [h10, Option.bind_some, toU_val, asB_c, Bool.not_true, Bool.false_eq_true, if_false, y11_is, len_uIs]
  have e1 : decide ((62 : Int) < (lab.length : Int)) = decide (62 < lab.length) := by rw [decide_eq_decide]; omega
  rw [e1]
  by_cases hf : few n l es = true
  rotate_left
  · simp only [Bool.not_eq_true] at hf
    simp [hf]
  by_cases h2 : 62 < lab.length
  · simp [hf, h2]
  have hf' := hf
  simp only [few, Bool.and_eq_true, decide_eq_true_eq] at hf'
  obtain ⟨⟨_, k1⟩, k2⟩ := hf'
  have g1 := y14_is (M := M) (n := n) (b1 := b1) (b2 := b2) (l := l) (es := es) (by omega) (by omega)
  have g2 := y15_is (M := M) (b := b3) (l := lab) (by omega)
  obtain ⟨b', g3⟩ := y31_is (M := M) (b1 := true) (b2 := true) (b3 := true) hM (n := n) (l := l) (es := es) (lab := lab) (by omega) (by omega) (by omega)
  have g4 := y17_is (M := M) (n := n) (b1 := b1) (b2 := b2) (l := l) (es := es) (by omega) (by omega)
  have g5 := y18_is (M := M) (n := n) (a1 := uIs b1 l) (a2 := uEs b2 es) (b3 := b3) (lab := lab) (by omega)
  have hx : ∃ f, U.exact (.st [uI n, uIs true l, uEs true es]) ks1 = some f ∧ f 0 = uI n ∧ f 1 = uIs true l ∧ f 2 = uEs true es := ⟨_, rfl, rfl, rfl, rfl⟩
  obtain ⟨f, f0, f1, f2, f3⟩ := hx
  have hfz : Sx.fz (⟨true, 1, lab.map uI⟩ : Sx) = uIs true lab := rfl
  have ho : ∀ xs : List U, U.one (.sl b' xs) = some (.sl b' xs) := fun _ => rfl
  simp only [hf, h2, Bool.not_true, Bool.true_eq_false, if_false, Option.bind_some, decide_false, Bool.false_eq_true, if_true, g1, toU_val, f0, f1, f2, f3, i_uI, g2, asSl_sl, hfz, g3, asTup_tup, List.getElem?_cons_zero, List.getElem?_cons_succ, ho, asI_uI, g4, asI_c]
  have last : y5_1 M (uIs b3 lab) n (uIs b1 l) (uEs b2 es) (.sl b' (if glErr n l es lab = 0 then (picks (visB lab es) 12 0).map uI else [])) (glErr n l es lab) (glErr n l es lab) = some (.val (.c (.bool true))) := by
    rw [y5_1_eq]
    by_cases h0 : glErr n l es lab = 0
    · have hg : gErr n l es = 0 := by unfold glErr at h0; split at h0 <;> assumption
      have hle : lErr n lab = 0 := by unfold glErr at h0; rw [if_pos hg] at h0; exact h0
      obtain ⟨j1, _, j3, j4⟩ := gErr_ok hg
      have hlen := lErr_len hle
      simp only [btw, decide_eq_true_eq] at j1
      obtain ⟨N, rfl⟩ := Int.eq_ofNat_of_zero_le j1.1
      obtain ⟨s, s1, s2⟩ := y32_is (M := M) (b2 := b2) (b3 := b3) (g0 := (N : Int)) (g1 := uIs b1 l) (show lab.length = N by omega) j4 (edgesOK_all j3)
      have hs : Sx.fz s = uIs s.b (picks (visB lab es) 12 0) := by unfold Sx.fz uIs; rw [s2]
      have hp : U.sl b' ((picks (visB lab es) 12 0).map uI) = uIs b' (picks (visB lab es) 12 0) := rfl
      have h27 := y27_is (M := M) (b1 := b') (b2 := s.b) (l := picks (visB lab es) 12 0) (r := picks (visB lab es) 12 0) (by have := picks_len (visB lab es) 12 0; omega)
      simp only [h0, decide_true, Bool.not_true, Bool.false_eq_true, if_false, if_true, s1, Option.bind_some, asSl_sl, hs, hp, h27, toU_val, asB_c]
    · simp only [h0, decide_false, Bool.not_false, if_true, decide_true, if_false]
      rfl
  by_cases h0 : gErr n l es = 0
  · have : glErr n l es lab = lErr n lab := by unfold glErr; rw [if_pos h0]
    rw [this] at last ⊢
    simp only [h0, decide_true, if_true, g5, Option.bind_some, toU_val, asI_c, last]
  · have : glErr n l es lab = gErr n l es := by unfold glErr; rw [if_neg h0]
    rw [this] at last ⊢
    simp only [h0, decide_false, Bool.false_eq_true, if_false, last]
    simpa only [h0, if_false] using last
end
end Go.Proofs.Ythjjbkiejkhjfaa.R
