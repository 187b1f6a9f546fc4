/-
  CHAPTER 19: which choices have the right form, reduced graphs, the law of graphs.
-/
import Derived.Test.YthjjbkiejkhjfaaWf
namespace Go.Proofs.Ythjjbkiejkhjfaa.R
open Go Go.Proofs.Ythjjbkiejkhjfaa.Vm
set_option linter.unusedVariables false
set_option linter.unusedSimpArgs false
variable {M : YM}
/-- a list ascends from place k on -/
def asc (l : List Int) : Nat → Nat → Bool
  | 0, _ => true
  | d + 1, k => decide (at0 l (k - 1) < at0 l k) && asc l d (k + 1)
def ascL (l : List Int) : Bool := asc l (l.length - 1) 1
def setErr (es : List E3) (s : Nat) (l : List Int) : Int := if ascL l = true then (if (l.all fun a => decide (a ∈ enabled es (s : Int))) = true then 0 else 10) else 13
def formErr (es : List E3) (xs : List (Bool × List Int)) : Nat → Nat → Int
  | 0, _ => 0
  | d + 1, s => if setErr es s (xs.getD s (false, [])).2 = 0 then formErr es xs d (s + 1) else setErr es s (xs.getD s (false, [])).2
def cErr (n : Int) (es : List E3) (xs : List (Bool × List Int)) : Int := if (xs.length : Int) = n then formErr es xs xs.length 0 else 6
theorem setErr_vals (es : List E3) (s : Nat) (l : List Int) : (ascL l = false → setErr es s l = 13) ∧ (ascL l = true → (l.all fun a => decide (a ∈ enabled es (s : Int))) = false → setErr es s l = 10) ∧ (ascL l = true → (l.all fun a => decide (a ∈ enabled es (s : Int))) = true → setErr es s l = 0) := by
  unfold setErr
  refine ⟨fun h => by simp [h], fun h1 h2 => ?_, fun h1 h2 => ?_⟩
  · rw [if_pos h1, if_neg (by rw [h2]; simp)]
  · rw [if_pos h1, if_pos h2]
section
variable {N : Nat} {n : Int} {b1 b2 b3 : Bool} {l : List Int} {es : List E3} {xs : List (Bool × List Int)}
theorem idx_nat {b : Bool} {l : List Int} {k : Nat} (h : k < l.length) : U.idx 1 (uIs b l) (k : Int) = some (uI (at0 l k)) := by
  have := idx_at (b := b) (x := (k : Int)) (l := l) (by omega) (by omega)
  rwa [Int.toNat_natCast] at this
theorem xs_get {s : Nat} (h : s < xs.length) : xs.getD s (false, []) = xs[s] := by rw [List.getD_eq_getElem?_getD, get?_of_lt h]; rfl
theorem at0_get {k : Nat} (h : k < l.length) : at0 l k = l[k] := by simp [at0, h]
/-! ### the reference -/
theorem y19_3_is (hn : xs.length ≤ 1000000) (hx : ∀ x ∈ xs, x.2.length ≤ 1000000) {g0 : Int} {g1 g2 : U} {s : Nat} (hs : s < xs.length) {t : Sx} {le : List Int} (ht : SxI t le) (hle : le.length ≤ 1000000) : ∀ (d k : Nat), k + d = xs[s].2.length →
    y19_3 M (uLs b3 xs) g0 g1 g2 (s : Int) (k : Int) t = if ((xs[s].2.drop k).all fun a => decide (a ∈ le)) = true then y19_1 M (uLs b3 xs) g0 g1 g2 ((s + 1 : Nat) : Int) else some (.val (uI 10)) := by
  have hxs := hx _ (List.getElem_mem hs)
  intro d
  induction d with
  | zero =>
    intro k hk
    rw [y19_3_eq, List.drop_of_length_le (by omega)]
    simp only [idx_uLs (get?_of_lt hs), Option.bind_some, cell_uIs, len_uIs, show ¬ ((k : Int) < xs[s].2.length) by omega, decide_false, Bool.false_eq_true, if_false, List.all_nil, if_true, wrap_succ (show s ≤ 1000000000 by omega)]
  | succ d ih =>
    intro k hk
    have hlt : k < xs[s].2.length := by omega
    rw [y19_3_eq, List.drop_eq_getElem_cons hlt]
    simp only [idx_uLs (get?_of_lt hs), Option.bind_some, cell_uIs, len_uIs, show ((k : Int) < xs[s].2.length) by omega, decide_true, if_true, idx_uIs (get?_of_lt hlt), cell_c, asI_c, ht.fz, y39_is hle, toU_val, asB_c, wrap_succ (show k ≤ 1000000000 by omega), ih (k + 1) (by omega), List.all_cons]
    by_cases h : xs[s].2[k] ∈ le <;> simp [h]
theorem y19_2_is (he : es.length ≤ 2000) (hn : xs.length ≤ 1000000) (hx : ∀ x ∈ xs, x.2.length ≤ 1000000) {g0 : Int} {g1 : U} {s : Nat} (hs : s < xs.length) : ∀ (d k : Nat), k + d = xs[s].2.length ∨ (d = 0 ∧ xs[s].2.length ≤ k) → 1 ≤ k → k ≤ 1000001 →
    y19_2 M (uLs b3 xs) g0 g1 (uEs b2 es) (s : Int) (k : Int) = if asc xs[s].2 d k = true then (if (xs[s].2.all fun a => decide (a ∈ enabled es (s : Int))) = true then y19_1 M (uLs b3 xs) g0 g1 (uEs b2 es) ((s + 1 : Nat) : Int) else some (.val (uI 10))) else some (.val (uI 13)) := by
  have hxs := hx _ (List.getElem_mem hs)
  intro d
  induction d with
  | zero =>
    intro k hk h1 hkb
    obtain ⟨t, t1, t2⟩ := y42_is (M := M) (b2 := b2) he (g0 := g0) (x := (s : Int)) (g1 := g1)
    have h3 := y19_3_is (M := M) (b3 := b3) (g0 := g0) (g1 := g1) (g2 := uEs b2 es) hn hx hs t2 (by have := picks_len (enB es (s : Int)) 12 0; unfold enabled; omega) xs[s].2.length 0 (by omega)
    rw [List.drop_zero, show ((0 : Nat) : Int) = 0 from rfl] at h3
    rw [y19_2_eq]
    simp only [idx_uLs (get?_of_lt hs), Option.bind_some, cell_uIs, len_uIs, show ¬ ((k : Int) < xs[s].2.length) by omega, decide_false, Bool.false_eq_true, if_false, t1, asSl_sl, h3, asc, if_true]
  | succ d ih =>
    intro k hk h1 hkb
    have hlt : k < xs[s].2.length := by omega
    have hw : IntKind.wrap .i64 ((k : Int) - 1) = ((k - 1 : Nat) : Int) := by rw [wrap_in (by omega) (by omega)]; omega
    rw [y19_2_eq]
    simp only [idx_uLs (get?_of_lt hs), Option.bind_some, cell_uIs, len_uIs, show ((k : Int) < xs[s].2.length) by omega, decide_true, if_true, idx_nat hlt, hw, idx_nat (b := xs[s].1) (show k - 1 < xs[s].2.length by omega), cell_c, asI_c, wrap_succ (show k ≤ 1000000000 by omega), ih (k + 1) (by omega) (by omega) (by omega), asc]
    by_cases h : at0 xs[s].2 k ≤ at0 xs[s].2 (k - 1)
    · have : ¬ at0 xs[s].2 (k - 1) < at0 xs[s].2 k := by omega
      simp [h, this]
    · have : at0 xs[s].2 (k - 1) < at0 xs[s].2 k := by omega
      simp [h, this]
theorem y19_1_is (he : es.length ≤ 2000) (hn : xs.length ≤ 1000000) (hx : ∀ x ∈ xs, x.2.length ≤ 1000000) {g0 : Int} {g1 : U} : ∀ (d s : Nat), s + d = xs.length → y19_1 M (uLs b3 xs) g0 g1 (uEs b2 es) (s : Int) = some (.val (uI (formErr es xs d s))) := by
  intro d
  induction d with
  | zero =>
    intro s hs
    rw [y19_1_eq]
    simp only [len_uLs, Option.bind_some, show ¬ ((s : Int) < xs.length) by omega, decide_false, Bool.false_eq_true, if_false, formErr]
  | succ d ih =>
    intro s hs
    have hlt : s < xs.length := by omega
    have hxs := hx _ (List.getElem_mem hlt)
    have h2 := y19_2_is (M := M) (b2 := b2) (b3 := b3) (g0 := g0) (g1 := g1) he hn hx hlt (xs[s].2.length - 1) 1 (by omega) (by omega) (by omega)
    rw [show ((1 : Nat) : Int) = 1 from rfl, ih (s + 1) (by omega)] at h2
    obtain ⟨v1, v2, v3⟩ := setErr_vals es s xs[s].2
    rw [y19_1_eq]
    simp only [len_uLs, Option.bind_some, show ((s : Int) < xs.length) by omega, decide_true, if_true, h2, formErr, xs_get hlt]
    have hA : asc xs[s].2 (xs[s].2.length - 1) 1 = ascL xs[s].2 := rfl
    rw [hA]
    cases h3 : ascL xs[s].2 with
    | false => simp [v1 h3]
    | true =>
      cases h4 : (xs[s].2.all fun a => decide (a ∈ enabled es (s : Int))) with
      | false => simp [v2 h3 h4]
      | true => simp [v3 h3 h4]
theorem y19_is (he : es.length ≤ 2000) (hn : xs.length ≤ 1000000) (hx : ∀ x ∈ xs, x.2.length ≤ 1000000) {g1 : U} : y19 M n g1 (uEs b2 es) (uLs b3 xs) = some (.val (uI (cErr n es xs))) := by
  have h1 := y19_1_is (M := M) (b2 := b2) (b3 := b3) (g0 := n) (g1 := g1) he hn hx xs.length 0 (by omega)
  rw [show ((0 : Nat) : Int) = 0 from rfl] at h1
  rw [y19_eq]
  simp only [len_uLs, Option.bind_some, h1]
  unfold cErr
  by_cases h : (xs.length : Int) = n <;> simp [h]
/-! ### the program -/
theorem idx_by {s : Nat} (h : s < N) : U.idx 12 (.sl true ((byU N es).map .st)) (s : Int) = some (.st ((List.range 12).map fun a => rowU (ixs gBy es (12 * s + a) es.length))) := by
  have hg : (byU N es)[s]? = some ((List.range 12).map fun a => rowU (ixs gBy es (12 * s + a) es.length)) := by simp [byU, h]
  simp only [U.idx, U.asL, Option.bind_some, elU, Int.natCast_nonneg, if_true, Int.toNat_natCast, List.getElem?_map, hg, Option.map_some]
  simp [U.size, U.cells]
theorem cell_by {s a : Nat} (h : a < 12) : U.cell (.st ((List.range 12).map fun a => rowU (ixs gBy es (12 * s + a) es.length))) a = some (rowU (ixs gBy es (12 * s + a) es.length)) := by
  simp [U.cell, U.cells, h]
theorem by_steps (hok : ∀ e ∈ es, eOK (N : Int) e = true) {s a : Nat} (h : a < 12) : ixs gBy es (12 * s + a) es.length = stepsL es (s : Int) (a : Int) := by
  rw [ixs_sel]
  refine sel_congr (fun e he => ?_) _
  obtain ⟨⟨g1, g2, g3, g4⟩, _⟩ := eOK_good (hok e he)
  unfold atSt gBy
  rw [Bool.eq_iff_iff]
  simp only [decide_eq_true_eq, Bool.and_eq_true]
  omega
theorem in_enabled (x a : Int) (s : Nat) (hx : x = (s : Int)) : (a ∈ enabled es x) ↔ (0 ≤ a ∧ a ≤ 11 ∧ stepsL es x a ≠ []) := by
  unfold enabled
  rw [mem_picks]
  constructor
  · rintro ⟨j, h1, h2, rfl, h4⟩
    refine ⟨by omega, by omega, fun h => ?_⟩
    unfold enB at h4
    rw [h] at h4; cases h4
  · rintro ⟨h1, h2, h3⟩
    obtain ⟨j, rfl⟩ := Int.eq_ofNat_of_zero_le h1
    refine ⟨j, by omega, by omega, rfl, ?_⟩
    unfold enB
    cases h : stepsL es x (j : Int) with
    | nil => exact absurd h h3
    | cons y l => rfl
theorem y51_3_is (hok : ∀ e ∈ es, eOK (N : Int) e = true) {u1 x18 : U} {x19 : Int} {s : Nat} (hs : s < N) (hN : N ≤ 60) {b : Bool} (hl : l.length ≤ 1000000) : ∀ (d k : Nat), k + d = l.length →
    y51_3 M (openU N u1 b2 es) (s : Int) x18 x19 (s : Int) (uIs b l) (l.length : Int) (k : Int) = if ((l.drop k).all fun a => decide (a ∈ enabled es (s : Int))) = true then y51_1 M (openU N u1 b2 es) x18 x19 ((s + 1 : Nat) : Int) else some (.val (uI 10)) := by
  obtain ⟨v, v0, v1, v2, v3, v4, v5⟩ := openU_fields N u1 b2 es
  intro d
  induction d with
  | zero =>
    intro k hk
    rw [y51_3_eq, List.drop_of_length_le (by omega)]
    simp only [show ¬ ((k : Int) < l.length) by omega, decide_false, Bool.false_eq_true, if_false, List.all_nil, if_true, wrap_succ (show s ≤ 1000000000 by omega)]
  | succ d ih =>
    intro k hk
    have hlt : k < l.length := by omega
    have hin := in_enabled (es := es) (s : Int) l[k] s rfl
    rw [y51_3_eq, List.drop_eq_getElem_cons hlt]
    simp only [show ((k : Int) < l.length) by omega, decide_true, if_true, idx_uIs (get?_of_lt hlt), Option.bind_some, cell_c, asI_c, y69_is, toU_val, asB_c, wrap_succ (show k ≤ 1000000000 by omega), ih (k + 1) (by omega), List.all_cons]
    by_cases hb : btw l[k] 0 11 = true
    · have hb' := hb
      simp only [btw, decide_eq_true_eq] at hb'
      obtain ⟨a, ha⟩ := Int.eq_ofNat_of_zero_le hb'.1
      rw [ha] at hin hb' ⊢
      have ha12 : a < 12 := by omega
      have hq : ((0 : Int) ≤ (a : Int) ∧ (a : Int) < ((12 : Nat) : Int)) := ⟨by omega, by omega⟩
      rw [ha] at hb
      have hix : 0 + ((a : Int)).toNat * 1 = a := by rw [Int.toNat_natCast]; omega
      simp only [hb, Bool.not_true, if_true, v0, v5, Option.bind_some, idx_by hs, hq, and_self, hix, cell_by ha12, len_rowU, by_steps hok ha12]
      have hd : decide ((((stepsL es (s : Int) (a : Int)).length : Nat) : Int) = 0) = !decide ((a : Int) ∈ enabled es (s : Int)) := by
        rw [← decide_not, decide_eq_decide, hin]
        constructor
        · intro h ⟨_, _, h3⟩
          exact h3 (List.length_eq_zero_iff.1 (by omega))
        · intro h
          by_cases h3 : stepsL es (s : Int) (a : Int) = []
          · rw [h3]; rfl
          · exact absurd ⟨hb'.1, hb'.2, h3⟩ h
      rw [hd]
      by_cases hm : (a : Int) ∈ enabled es (s : Int) <;> simp [hm]
    · have hm : ¬ l[k] ∈ enabled es (s : Int) := fun h => by
        have := hin.1 h
        exact hb (by simp only [btw, decide_eq_true_eq]; omega)
      simp only [Bool.not_eq_true] at hb
      simp [hb, hm]
theorem y51_2_is (hok : ∀ e ∈ es, eOK (N : Int) e = true) {u1 x18 : U} {x19 : Int} {s : Nat} (hs : s < N) (hN : N ≤ 60) {b : Bool} (hl : l.length ≤ 1000000) : ∀ (d k : Nat), k + d = l.length ∨ (d = 0 ∧ l.length ≤ k) → 1 ≤ k → k ≤ 1000001 →
    y51_2 M (openU N u1 b2 es) (s : Int) (uIs b l) (k : Int) x18 x19 (s : Int) = if asc l d k = true then (if (l.all fun a => decide (a ∈ enabled es (s : Int))) = true then y51_1 M (openU N u1 b2 es) x18 x19 ((s + 1 : Nat) : Int) else some (.val (uI 10))) else some (.val (uI 13)) := by
  intro d
  induction d with
  | zero =>
    intro k hk h1 hkb
    have h3 := y51_3_is (M := M) (b2 := b2) (u1 := u1) (x18 := x18) (x19 := x19) (b := b) hok hs hN hl l.length 0 (by omega)
    rw [List.drop_zero, show ((0 : Nat) : Int) = 0 from rfl] at h3
    rw [y51_2_eq]
    simp only [len_uIs, Option.bind_some, show ¬ ((k : Int) < l.length) by omega, decide_false, Bool.false_eq_true, if_false, h3, asc, if_true]
  | succ d ih =>
    intro k hk h1 hkb
    have hlt : k < l.length := by omega
    have hw : IntKind.wrap .i64 ((k : Int) - 1) = ((k - 1 : Nat) : Int) := by rw [wrap_in (by omega) (by omega)]; omega
    rw [y51_2_eq]
    simp only [Option.bind_some, len_uIs, show ((k : Int) < l.length) by omega, decide_true, if_true, idx_nat hlt, hw, idx_nat (b := b) (show k - 1 < l.length by omega), cell_c, asI_c, wrap_succ (show k ≤ 1000000000 by omega), ih (k + 1) (by omega) (by omega) (by omega), asc]
    by_cases h : at0 l k ≤ at0 l (k - 1)
    · have : ¬ at0 l (k - 1) < at0 l k := by omega
      simp [h, this]
    · have : at0 l (k - 1) < at0 l k := by omega
      simp [h, this]
theorem y51_1_is (hok : ∀ e ∈ es, eOK (N : Int) e = true) (hN : N ≤ 60) (hn : xs.length = N) (hx : ∀ x ∈ xs, x.2.length ≤ 1000000) {u1 : U} : ∀ (d s : Nat), s + d = xs.length → y51_1 M (openU N u1 b2 es) (uLs b3 xs) (xs.length : Int) (s : Int) = some (.val (uI (formErr es xs d s))) := by
  intro d
  induction d with
  | zero =>
    intro s hs
    rw [y51_1_eq]
    simp only [show ¬ ((s : Int) < xs.length) by omega, decide_false, Bool.false_eq_true, if_false, formErr]
  | succ d ih =>
    intro s hs
    have hlt : s < xs.length := by omega
    have hxs := hx _ (List.getElem_mem hlt)
    have h2 := y51_2_is (M := M) (b2 := b2) (u1 := u1) (x18 := uLs b3 xs) (x19 := (xs.length : Int)) (b := xs[s].1) hok (show s < N by omega) hN hxs (xs[s].2.length - 1) 1 (by omega) (by omega) (by omega)
    rw [show ((1 : Nat) : Int) = 1 from rfl, ih (s + 1) (by omega)] at h2
    obtain ⟨v1, v2, v3⟩ := setErr_vals es s xs[s].2
    rw [y51_1_eq]
    simp only [show ((s : Int) < xs.length) by omega, decide_true, if_true, idx_uLs (get?_of_lt hlt), Option.bind_some, cell_uIs, h2, formErr, xs_get hlt]
    have hA : asc xs[s].2 (xs[s].2.length - 1) 1 = ascL xs[s].2 := rfl
    rw [hA]
    cases h3 : ascL xs[s].2 with
    | false => simp [v1 h3]
    | true =>
      cases h4 : (xs[s].2.all fun a => decide (a ∈ enabled es (s : Int))) with
      | false => simp [v2 h3 h4]
      | true => simp [v3 h3 h4]
theorem y51_is (hM : M.ext = yExt2) (h0 : gErr n l es = 0) (hx : ∀ x ∈ xs, x.2.length ≤ 1000000) : y51 M n (uIs b1 l) (uEs b2 es) (uLs b3 xs) = some (.val (uI (cErr n es xs))) := by
  obtain ⟨N, rfl, hN, g4, hl, hok, hed⟩ := gErr_nat h0
  have ho : U.one (openU N (uIs b1 l) b2 es) = some (openU N (uIs b1 l) b2 es) := rfl
  rw [y51_eq]
  simp only [len_uLs, Option.bind_some]
  unfold cErr
  by_cases h : (xs.length : Int) = (N : Int)
  · have h1 := y51_1_is (M := M) (b2 := b2) (b3 := b3) (u1 := uIs b1 l) hok hN (show xs.length = N by omega) hx xs.length 0 (by omega)
    rw [show ((0 : Nat) : Int) = 0 from rfl] at h1
    simp only [h, decide_true, Bool.not_true, Bool.false_eq_true, if_false, y61_is hM hN g4 hed, Option.bind_some, toU_val, ho, if_true]
    rw [← h]
    exact h1
  · simp [h]
/-! ### reduced graphs -/
def inC (xs : List (Bool × List Int)) (e : E3) : Bool := decide (e.a ∈ (xs.getD e.f.toNat (false, [])).2)
def redE (es : List E3) (xs : List (Bool × List Int)) : List E3 := es.filter (inC xs)
structure SxE (s : Sx) (l : List E3) : Prop where
  es : s.es = l.map uE
  b : s.b = false → s.es = []
  z : s.b = true → s.sz = 3
theorem SxE.nil : SxE ⟨false, 0, []⟩ [] := ⟨rfl, fun _ => rfl, fun h => by cases h⟩
theorem SxE.fz {s : Sx} {l : List E3} (h : SxE s l) : s.fz = uEs s.b l := by unfold Sx.fz uEs; rw [h.es]
theorem SxE.app {s : Sx} {l : List E3} (h : SxE s l) (e : E3) (hn : l.length ≤ 1000000) : ∃ s', Sx.app s 3 [.st [.c (.int .i64 e.f), .c (.int .i64 e.t), .c (.int .i64 e.a)]] = some s' ∧ SxE s' (l ++ [e]) := by
  refine ⟨⟨true, 3, s.es ++ [uE e]⟩, app_one rfl ?_ (by rw [h.es]; simpa using hn), by rw [h.es]; simp, fun h => (by cases h), fun _ => rfl⟩
  cases hb : s.b with
  | false => exact .inl rfl
  | true => exact .inr (h.z hb)
theorem idx_xs {x : Int} (h0 : 0 ≤ x) (h : x < (xs.length : Int)) : ∃ b, U.idx 1 (uLs b3 xs) x = some (uIs b (xs.getD x.toNat (false, [])).2) := by
  obtain ⟨k, rfl⟩ := Int.eq_ofNat_of_zero_le h0
  have hk : k < xs.length := by omega
  rw [idx_uLs (get?_of_lt hk), Int.toNat_natCast, xs_get hk]
  exact ⟨_, rfl⟩
theorem take_red {k : Nat} (h : k < es.length) : (es.take (k + 1)).filter (inC xs) = (es.take k).filter (inC xs) ++ (if inC xs es[k] = true then [es[k]] else []) := by
  rw [List.take_succ_eq_append_getElem h, List.filter_append]
  congr 1
  by_cases hp : inC xs es[k] = true
  · rw [if_pos hp]; simp [hp]
  · rw [if_neg hp]; simp [hp]
theorem len_red (k : Nat) : ((es.take k).filter (inC xs)).length ≤ es.length := by
  have h1 := List.length_filter_le (inC xs) (es.take k)
  have h2 : (es.take k).length ≤ es.length := by simp; omega
  omega
theorem getD_len (hx : ∀ x ∈ xs, x.2.length ≤ 1000000) (k : Nat) : (xs.getD k (false, [])).2.length ≤ 1000000 := by
  rw [List.getD_eq_getElem?_getD]
  cases h : xs[k]? with
  | none => simp
  | some x => exact hx x (List.mem_of_getElem? h)
theorem y30_1_is (he : es.length ≤ 2000) (hx : ∀ x ∈ xs, x.2.length ≤ 1000000) (hn : xs.length = N) (hok : ∀ e ∈ es, eOK (N : Int) e = true) {g0 z0 o0 : Int} {g1 : U} {z1 z2 o1 : Sx} : ∀ (d k : Nat) (out : Sx), k + d = es.length → SxE out ((es.take k).filter (inC xs)) →
    ∃ s, y30_1 M (uLs b3 xs) g0 g1 (uEs b2 es) z0 o0 (k : Int) z1 z2 o1 out = some (.val (.st [uI o0, Sx.fz o1, Sx.fz s])) ∧ SxE s (redE es xs) := by
  intro d
  induction d with
  | zero =>
    intro k out hk ho
    rw [List.take_of_length_le (by omega)] at ho
    rw [y30_1_eq]
    simp only [len_uEs, Option.bind_some, show ¬ ((k : Int) < es.length) by omega, decide_false, Bool.false_eq_true, if_false]
    exact ⟨out, rfl, ho⟩
  | succ d ih =>
    intro k out hk ho
    have hlt : k < es.length := by omega
    obtain ⟨⟨g1', g2', _, _⟩, _⟩ := eOK_good (hok _ (List.getElem_mem hlt))
    obtain ⟨f, f0, f1, f2, f3⟩ := struct_uE es[k]
    obtain ⟨b, hb⟩ := idx_xs (b3 := b3) (xs := xs) g1' (by omega)
    rw [y30_1_eq]
    simp only [len_uEs, Option.bind_some, show ((k : Int) < es.length) by omega, decide_true, if_true, idx_uEs (get?_of_lt hlt), cell_uE0, cell_uE2, asI_c, hb, cell_uIs, y39_is (getD_len hx _), toU_val, asB_c, f0, f1, f2, f3, i_uI]
    have hi : decide (es[k].a ∈ (xs.getD es[k].f.toNat (false, [])).2) = inC xs es[k] := rfl
    rw [hi]
    have ht := take_red (xs := xs) hlt
    cases hp : inC xs es[k] with
    | true =>
      obtain ⟨s', s1, s2⟩ := ho.app es[k] (by have := len_red (es := es) (xs := xs) k; omega)
      obtain ⟨s, k1, k2⟩ := ih (k + 1) s' (by omega) (by rw [ht, hp]; exact s2)
      simp only [if_true, s1, Option.bind_some, y30_2_eq, wrap_succ (show k ≤ 1000000000 by omega), k1]
      exact ⟨s, rfl, k2⟩
    | false =>
      obtain ⟨s, k1, k2⟩ := ih (k + 1) out (by omega) (by rw [ht, hp]; simpa using ho)
      simp only [Bool.false_eq_true, if_false, y30_2_eq, wrap_succ (show k ≤ 1000000000 by omega), k1]
      exact ⟨s, rfl, k2⟩
theorem y23_1_is (he : es.length ≤ 2000) (hx : ∀ x ∈ xs, x.2.length ≤ 1000000) (hn : xs.length = N) (hok : ∀ e ∈ es, eOK (N : Int) e = true) {z0 o0 : Int} {z1 z2 o1 : Sx} : ∀ (d k : Nat) (out : Sx), k + d = es.length → SxE out ((es.take k).filter (inC xs)) →
    ∃ s, y23_1 M (uLs b3 xs) z0 o0 (uEs b2 es) (es.length : Int) (k : Int) z1 z2 o1 out = some (.tup [.st [uI o0, Sx.fz o1, Sx.fz s], uI 0]) ∧ SxE s (redE es xs) := by
  intro d
  induction d with
  | zero =>
    intro k out hk ho
    rw [List.take_of_length_le (by omega)] at ho
    rw [y23_1_eq]
    simp only [show ¬ ((k : Int) < es.length) by omega, decide_false, Bool.false_eq_true, if_false]
    exact ⟨out, rfl, ho⟩
  | succ d ih =>
    intro k out hk ho
    have hlt : k < es.length := by omega
    obtain ⟨⟨g1', g2', _, _⟩, _⟩ := eOK_good (hok _ (List.getElem_mem hlt))
    obtain ⟨f, f0, f1, f2, f3⟩ := struct_uE es[k]
    obtain ⟨b, hb⟩ := idx_xs (b3 := b3) (xs := xs) g1' (by omega)
    rw [y23_1_eq]
    simp only [Option.bind_some, show ((k : Int) < es.length) by omega, decide_true, if_true, idx_uEs (get?_of_lt hlt), f0, f1, f2, f3, i_uI, hb, cell_uIs, y60_is (getD_len hx _), toU_val, asB_c]
    have hi : decide (es[k].a ∈ (xs.getD es[k].f.toNat (false, [])).2) = inC xs es[k] := rfl
    rw [hi]
    have ht := take_red (xs := xs) hlt
    cases hp : inC xs es[k] with
    | true =>
      obtain ⟨s', s1, s2⟩ := ho.app es[k] (by have := len_red (es := es) (xs := xs) k; omega)
      obtain ⟨s, k1, k2⟩ := ih (k + 1) s' (by omega) (by rw [ht, hp]; exact s2)
      simp only [if_true, s1, Option.bind_some, y23_2_eq, wrap_succ (show k ≤ 1000000000 by omega), k1]
      exact ⟨s, rfl, k2⟩
    | false =>
      obtain ⟨s, k1, k2⟩ := ih (k + 1) out (by omega) (by rw [ht, hp]; simpa using ho)
      simp only [Bool.false_eq_true, if_false, y23_2_eq, wrap_succ (show k ≤ 1000000000 by omega), k1]
      exact ⟨s, rfl, k2⟩
/-- the error of a graph with a choice -/
def gcErr (n : Int) (l : List Int) (es : List E3) (xs : List (Bool × List Int)) : Int := if gErr n l es = 0 then cErr n es xs else gErr n l es
theorem cErr_len (h : cErr n es xs = 0) : (xs.length : Int) = n := by
  unfold cErr at h
  split at h
  · assumption
  · cases h
theorem y23_is (hM : M.ext = yExt2) (hl : l.length ≤ 1000000) (he : es.length ≤ 1000000) (hx : ∀ x ∈ xs, x.2.length ≤ 1000000) (hw : b1 = false → l = []) :
    ∃ bx by', y23 M n (uIs b1 l) (uEs b2 es) (uLs b3 xs) = some (.tup [.st (if gcErr n l es xs = 0 then [uI n, uIs bx l, uEs by' (redE es xs)] else [uI 0, uIs false [], uEs false []]), uI (gcErr n l es xs)]) := by
  rw [y23_eq]
  simp only [y48_is hl he, Option.bind_some, toU_val, asI_c]
  unfold gcErr
  by_cases h0 : gErr n l es = 0
  · simp only [h0, decide_true, Bool.not_true, Bool.false_eq_true, if_false, if_true, y51_is hM h0 hx, Option.bind_some, toU_val, asI_c]
    by_cases h1 : cErr n es xs = 0
    · have hlen := cErr_len h1
      obtain ⟨N, rfl, hN, g4, hl', hok, hed⟩ := gErr_nat h0
      obtain ⟨s, s1, s2⟩ := y59_is (M := M) hw hl
      obtain ⟨t, t1, t2⟩ := y23_1_is (M := M) (b2 := b2) (b3 := b3) (z0 := 0) (o0 := (N : Int)) (z1 := ⟨false, 0, []⟩) (z2 := ⟨false, 0, []⟩) (o1 := s) g4 hx (show xs.length = N by omega) hok es.length 0 ⟨false, 0, []⟩ (by omega) (by simpa using SxE.nil)
      rw [show ((0 : Nat) : Int) = 0 from rfl] at t1
      simp only [h1, decide_true, Bool.not_true, Bool.false_eq_true, if_false, s1, Option.bind_some, asSl_sl, len_uEs, t1, if_true, s2.fz, t2.fz]
      exact ⟨_, _, rfl⟩
    · simp only [h1, decide_false, Bool.not_false, if_true, if_false]
      exact ⟨false, false, rfl⟩
  · simp only [h0, decide_false, Bool.not_false, if_true, if_false]
    exact ⟨false, false, rfl⟩
theorem y30_is (hl : l.length ≤ 1000000) (he : es.length ≤ 2000) (hx : ∀ x ∈ xs, x.2.length ≤ 1000000) (hn : xs.length = N) (hok : ∀ e ∈ es, eOK (N : Int) e = true) :
    ∃ by', y30 M (N : Int) (uIs b1 l) (uEs b2 es) (uLs b3 xs) = some (.val (.st [uI N, uIs true l, uEs by' (redE es xs)])) := by
  obtain ⟨t, t1, t2⟩ := y30_1_is (M := M) (b2 := b2) (b3 := b3) (g0 := (N : Int)) (g1 := uIs b1 l) (z0 := 0) (o0 := (N : Int)) (z1 := ⟨false, 0, []⟩) (z2 := ⟨false, 0, []⟩) (o1 := ⟨true, 1, l.map uI⟩) he hx hn hok es.length 0 ⟨false, 0, []⟩ (by omega) (by simpa using SxE.nil)
  rw [show ((0 : Nat) : Int) = 0 from rfl] at t1
  rw [y30_eq]
  simp only [y15_is hl, Option.bind_some, asSl_sl, t1, t2.fz]
  exact ⟨_, rfl⟩
end
end Go.Proofs.Ythjjbkiejkhjfaa.R
