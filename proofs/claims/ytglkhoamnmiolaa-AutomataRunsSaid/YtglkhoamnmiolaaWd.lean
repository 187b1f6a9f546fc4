/-
  CHAPTER 14: letters that are read, runs that are right.
-/
import Derived.Test.YtglkhoamnmiolaaWc
namespace Go.Proofs.Ytglkhoamnmiolaa.R
open Go Go.Proofs.Ytglkhoamnmiolaa.Vm
set_option linter.unusedVariables false
set_option linter.unusedSimpArgs false
variable {M : YM}
/-! ### bits -/
theorem and_nat {a b : Nat} (ha : a < 4096) (hb : b < 4096) : bitI .and .i64 (a : Int) (b : Int) = ((a &&& b : Nat) : Int) := by
  have h1 : BitVec.ofInt 64 (a : Int) = BitVec.ofNat 64 a := by simp
  have h2 : BitVec.ofInt 64 (b : Int) = BitVec.ofNat 64 b := by simp
  have h3 : a &&& b ≤ a := Nat.and_le_left
  unfold bitI
  show IntKind.wrap .i64 (((BitVec.ofInt 64 (a : Int)) &&& (BitVec.ofInt 64 (b : Int))).toNat : Int) = _
  rw [h1, h2, BitVec.toNat_and, BitVec.toNat_ofNat, BitVec.toNat_ofNat]
  rw [Nat.mod_eq_of_lt (show a < 2 ^ 64 by omega), Nat.mod_eq_of_lt (show b < 2 ^ 64 by omega)]
  exact wrap_in (by omega) (by omega)
theorem y81_is {a k : Nat} (hk : k < 64) : y81 M (a : Int) (k : Int) = some (.val (.c (.bool (a.testBit k)))) := by
  rw [y81_eq]
  have h1 : shI .shr .i64 (a : Int) (k : Int) = ((a / 2 ^ k : Nat) : Int) := by
    unfold shI
    simp only [Int.toNat_natCast, show IntKind.bits .i64 = 64 from rfl, Nat.min_eq_left (show k ≤ 64 by omega)]
    rw [Int.fdiv_eq_ediv_of_nonneg _ (Int.le_of_lt (Int.pow_pos (by omega)))]
    simp
  rw [if_neg (by omega), h1, show (2 : Int) = ((2 : Nat) : Int) from rfl, tmod_nat, Nat.testBit_eq_decide_div_mod_eq]
  congr 4
  simp only [decide_eq_decide]
  omega
def okBit (n v c k : Nat) : Bool := !((n.testBit k && !c.testBit k) || (v.testBit k && c.testBit k))
def okBits (n v c : Nat) : Nat → Nat → Bool
  | 0, _ => true
  | d + 1, k => okBit n v c k && okBits n v c d (k + 1)
theorem y43_1_is {n v c : Nat} {f t : Int} : ∀ (d k : Nat), k + d = 12 → y43_1 M (c : Int) f t (n : Int) (v : Int) (k : Int) = some (.val (.c (.bool (okBits n v c d k)))) := by
  intro d
  induction d with
  | zero =>
    intro k hk
    rw [y43_1_eq]
    simp only [show ¬ ((k : Int) < 12) by omega, decide_false, Bool.false_eq_true, if_false, okBits]
  | succ d ih =>
    intro k hk
    rw [y43_1_eq]
    simp only [show ((k : Int) < 12) by omega, decide_true, if_true, y81_is (show k < 64 by omega), Option.bind_some, toU_val, asB_c, wrap_succ (show k ≤ 1000000000 by omega), ih (k + 1) (by omega), okBits, okBit]
    cases n.testBit k <;> cases c.testBit k <;> cases v.testBit k <;> simp
theorem okBits_iff (n v c : Nat) : ∀ (d k : Nat), okBits n v c d k = true ↔ ∀ j, k ≤ j → j < k + d → okBit n v c j = true
  | 0, k => by simp [okBits]; omega
  | d + 1, k => by
    simp only [okBits, Bool.and_eq_true, okBits_iff n v c d (k + 1)]
    constructor
    · rintro ⟨h1, h2⟩ j hj hj2
      by_cases h : j = k
      · rw [h]; exact h1
      · exact h2 j (by omega) (by omega)
    · intro h
      exact ⟨h k (by omega) (by omega), fun j hj hj2 => h j (by omega) (by omega)⟩
/-- an edge with a letter -/
def rdI (e : E4) (c : Int) : Bool := decide (bitI .and .i64 c e.n = e.n) && decide (bitI .and .i64 c e.v = 0)
theorem read_same {n v c : Nat} (hn : n < 4096) (hv : v < 4096) (hc : c < 4096) : okBits n v c 12 0 = (decide (bitI .and .i64 (c : Int) (n : Int) = (n : Int)) && decide (bitI .and .i64 (c : Int) (v : Int) = 0)) := by
  rw [and_nat hc hn, and_nat hc hv, Bool.eq_iff_iff, okBits_iff]
  simp only [Bool.and_eq_true, decide_eq_true_eq]
  have big : ∀ {x j : Nat}, x < 4096 → 12 ≤ j → x.testBit j = false := fun {x j} hx hj => Nat.testBit_lt_two_pow (Nat.lt_of_lt_of_le hx (show 2 ^ 12 ≤ 2 ^ j from Nat.pow_le_pow_right (by omega) hj))
  constructor
  · intro h
    refine ⟨?_, ?_⟩
    · have : c &&& n = n := by
        refine Nat.eq_of_testBit_eq fun j => ?_
        rw [Nat.testBit_and]
        by_cases hj : j < 12
        · have := h j (by omega) (by omega)
          revert this
          unfold okBit
          cases n.testBit j <;> cases c.testBit j <;> cases v.testBit j <;> simp
        · rw [big hn (by omega)]; simp
      exact_mod_cast this
    · have : c &&& v = 0 := by
        refine Nat.eq_of_testBit_eq fun j => ?_
        rw [Nat.testBit_and, Nat.zero_testBit]
        by_cases hj : j < 12
        · have := h j (by omega) (by omega)
          revert this
          unfold okBit
          cases n.testBit j <;> cases c.testBit j <;> cases v.testBit j <;> simp
        · rw [big hv (by omega)]; simp
      exact_mod_cast this
  · rintro ⟨h1, h2⟩ j _ _
    have h1' : c &&& n = n := by exact_mod_cast h1
    have h2' : c &&& v = 0 := by exact_mod_cast h2
    have k1 : (c.testBit j && n.testBit j) = n.testBit j := by rw [← Nat.testBit_and, h1']
    have k2 : (c.testBit j && v.testBit j) = false := by rw [← Nat.testBit_and, h2', Nat.zero_testBit]
    unfold okBit
    revert k1 k2
    cases n.testBit j <;> cases c.testBit j <;> cases v.testBit j <;> simp
theorem ltr_nat {n : Int} (h : btw n 0 4095 = true) : ∃ m : Nat, n = m ∧ m < 4096 := by
  simp only [btw, decide_eq_true_eq] at h
  exact ⟨n.toNat, by omega, by omega⟩
theorem y43_is {e : E4} {c : Int} (h1 : btw e.n 0 4095 = true) (h2 : btw e.v 0 4095 = true) (h3 : btw c 0 4095 = true) : y43 M e.f e.t e.n e.v c = some (.val (.c (.bool (rdI e c)))) := by
  obtain ⟨n, hn, hn'⟩ := ltr_nat h1
  obtain ⟨v, hv, hv'⟩ := ltr_nat h2
  obtain ⟨m, hm, hm'⟩ := ltr_nat h3
  rw [y43_eq, rdI, hn, hv, hm]
  rw [← read_same hn' hv' hm']
  exact y43_1_is 12 0 rfl
theorem y60_is (e : E4) (c : Int) : y60 M e.f e.t e.n e.v c = some (.val (.c (.bool (rdI e c)))) := by
  rw [y60_eq, rdI]
  by_cases h : bitI .and .i64 c e.n = e.n <;> simp [h]
/-- an edge from a state to another one, with a letter -/
def edge (s t c : Int) (e : E4) : Bool := decide (e.f = s) && decide (e.t = t) && rdI e c
def pI (n : Int) : U := .ref (.st [.c (.int .i64 n)]) 0
theorem y59_is (s t c : Int) (e : E4) : ycall M 59 ([] ++ [uE e] ++ [pI s, pI t, pI c]) = some (.val (.c (.bool (edge s t c e)))) := by
  show y59 M e.f e.t e.n e.v (pI s) (pI t) (pI c) = _
  rw [y59_eq]
  simp only [pI, U.asR, Option.bind_some, U.cell, U.cells, List.getElem?_cons_zero, asI_c, y60_is, toU_val, asB_c, edge]
  by_cases h1 : e.f = s
  · by_cases h2 : e.t = t <;> simp [h1, h2]
  · simp [h1]
theorem y62_is {b : Bool} {l : List Int} (hl : l.length ≤ 1000000) (s : Int) : ycall M 62 ([] ++ [uI s] ++ [.ref (.st [uIs b l]) 0]) = some (.val (.c (.bool (decide (s ∈ l))))) := by
  show y62 M s (.ref (.st [uIs b l]) 0) = _
  rw [y62_eq]
  simp only [U.asR, Option.bind_some, U.cell, U.cells, List.getElem?_cons_zero, y56_is s hl, toU_val, asB_c]
theorem y50_1_is {b : Bool} {es : List E4} (he : es.length ≤ 1000000) {a s t c : Int} {a1 a3 : U} (hok : es.all (eOK a) = true) (hc : btw c 0 4095 = true) {x2 x3 : Int} : ∀ (d k : Nat), k + d = es.length → y50_1 M c a a1 (uEs b es) a3 s t x2 x3 (k : Int) = some (.val (.c (.bool ((es.drop k).any (edge s t c))))) := by
  intro d
  induction d with
  | zero =>
    intro k hk
    rw [y50_1_eq, List.drop_of_length_le (by omega)]
    simp only [len_uEs, Option.bind_some, show ¬ ((k : Int) < es.length) by omega, decide_false, Bool.false_eq_true, if_false, List.any_nil]
  | succ d ih =>
    intro k hk
    have hlt : k < es.length := by omega
    obtain ⟨f, f0, f1, f2, f3, f4⟩ := struct_uE es[k]
    have ho : eOK a es[k] = true := List.all_eq_true.1 hok _ (List.getElem_mem hlt)
    simp only [eOK, Bool.and_eq_true] at ho
    have c0 : U.cell (uE es[k]) 0 = some (uI es[k].f) := rfl
    have c1 : U.cell (uE es[k]) 1 = some (uI es[k].t) := rfl
    rw [y50_1_eq, List.drop_eq_getElem_cons hlt]
    simp only [len_uEs, Option.bind_some, show ((k : Int) < es.length) by omega, decide_true, if_true, idx_uEs (get?_of_lt hlt), c0, c1, asI_uI, f0, f1, f2, f3, f4, i_uI, y43_is ho.1.2 ho.2 hc, toU_val, asB_c, wrap_succ (show k ≤ 1000000000 by omega), ih (k + 1) (by omega), List.any_cons, edge]
    by_cases h1 : es[k].f = s
    · by_cases h2 : es[k].t = t
      · cases h3 : rdI es[k] c <;> simp [h1, h2, -List.getElem_cons_drop]
      · simp [h1, h2, -List.getElem_cons_drop]
    · simp [h1, -List.getElem_cons_drop]
theorem y50_is {b : Bool} {es : List E4} (he : es.length ≤ 1000000) {a s t c : Int} {a1 a3 : U} (hok : es.all (eOK a) = true) (hc : btw c 0 4095 = true) : y50 M a a1 (uEs b es) a3 s t 0 0 c = some (.val (.c (.bool (es.any (edge s t c))))) := by
  rw [y50_eq]
  have := y50_1_is (M := M) (b := b) (a1 := a1) (a3 := a3) (s := s) (t := t) (x2 := 0) (x3 := 0) he hok hc es.length 0 (by omega)
  rw [List.drop_zero, show ((0 : Nat) : Int) = 0 from rfl] at this
  exact this
/-- lists in a row -/
theorem y89_is {n : Nat} (hn : n ≤ 1000000) : ∃ s : Sx, y89 M (.sl false []) (n : Int) = some (.sl s) ∧ s.es = [] ∧ (s.b = true → s.sz = 1) := by
  rw [y89_eq, y89_1_eq]
  simp only [show ¬ ((n : Int) < 0) by omega, decide_false, Bool.false_eq_true, if_false, U.isNilSl, if_true, U.len, U.asL, Option.map_some, Option.bind_some, List.length_nil]
  have hw : IntKind.wrap .i64 (0 - ((0 : Nat) : Int)) = 0 := wrap_in (by omega) (by omega)
  have hw2 : IntKind.wrap .i64 ((n : Int) - 0) = n := by rw [Int.sub_zero]; exact wrap_in (by omega) (by omega)
  rw [hw, hw2]
  by_cases h : 0 < n
  · have hsub : U.sub 1 (.sl false []) 0 (some 0) = some (.sl false []) := rfl
    have hsub2 : subU 1 (List.replicate (n : Int).toNat (.c (.int .i64 0))) 0 (some ((0 : Nat) : Int)) = some [] := by
      unfold subU
      rw [if_pos]
      · simp
      · refine ⟨by omega, by simp, by simp, ?_⟩
        rw [List.all_eq_true]
        intro x hx
        rw [List.eq_of_mem_replicate hx]; rfl
    simp only [show ((0 : Int) < n) by omega, decide_true, if_true, hsub, Option.bind_some, show (0 : Int) < (n : Int) ∧ (n : Int) ≤ 2 ^ 36 ∧ 1 = 1 from ⟨by omega, by omega, rfl⟩, true_and, hsub2, and_self]
    rw [y89_2_eq]
    refine ⟨Sx.win ⟨true, 1, List.replicate (n : Int).toNat (.c (.int .i64 0))⟩ ((0 : Int).toNat) (0 : Nat), ?_, ?_, fun _ => rfl⟩
    · rw [if_pos]
      · rfl
      · simp [Sx.win, scals]
    · simp [Sx.win]
  · have : n = 0 := by omega
    subst this
    simp only [show ¬ ((0 : Int) < ((0 : Nat) : Int)) by omega, decide_false, Bool.false_eq_true, if_false]
    rw [y89_2b_eq]
    simp only [U.isNilSl, if_true, Option.bind_some]
    exact ⟨.nil, by simp [Sx.nil, scals], rfl, fun h => by cases h⟩
theorem y54_is {b1 b2 : Bool} {l r : List Int} (hn : l.length + r.length ≤ 1000000) : ∃ s : Sx, y54 M (Sx.fz (⟨true, 1, [uIs b1 l, uIs b2 r]⟩ : Sx)) = some (.sl s) ∧ s.es = (l ++ r).map uI ∧ (s.es ≠ [] → s.sz = 1) := by
  obtain ⟨s0, h0, h1, h2⟩ := y89_is (M := M) (n := l.length + r.length) (by omega)
  have hu : ∀ (k : Nat) (x : Bool × List Int), [(b1, l), (b2, r)][k]? = some x → U.idx 1 (Sx.fz (⟨true, 1, [uIs b1 l, uIs b2 r]⟩ : Sx)) (k : Int) = some (uIs x.1 x.2) := fun k x hx => idx_uLs (b := true) (l := [(b1, l), (b2, r)]) hx
  have hlen : U.len (Sx.fz (⟨true, 1, [uIs b1 l, uIs b2 r]⟩ : Sx)) = some 2 := rfl
  have i0 := hu 0 _ rfl
  have i1 := hu 1 _ rfl
  rw [show ((0 : Nat) : Int) = 0 from rfl] at i0
  rw [show ((1 : Nat) : Int) = 1 from rfl] at i1
  have w1 : IntKind.wrap .i64 ((0 : Int) + 1) = 1 := wrap_in (by omega) (by omega)
  have w2 : IntKind.wrap .i64 ((1 : Int) + 1) = 2 := wrap_in (by omega) (by omega)
  have w3 : IntKind.wrap .i64 ((0 : Int) + (l.length : Int)) = l.length := by rw [Int.zero_add]; exact wrap_in (by omega) (by omega)
  have w4 : IntKind.wrap .i64 ((l.length : Int) + (r.length : Int)) = ((l.length + r.length : Nat) : Int) := by rw [wrap_in (by omega) (by omega)]; simp
  have sz : ∀ x ∈ (l.map uI), x.size = 1 := by intro x hx; obtain ⟨n, _, rfl⟩ := List.mem_map.1 hx; rfl
  have sz' : ∀ x ∈ (r.map uI), x.size = 1 := by intro x hx; obtain ⟨n, _, rfl⟩ := List.mem_map.1 hx; rfl
  have app : ∀ (s : Sx) (xs : List U), (∀ x ∈ xs, x.size = 1) → s.es.length + xs.length ≤ 1000000 → (s.b = false → s.es = []) → (s.b = true → s.sz = 1) → ∃ t : Sx, Sx.app s 1 xs = some t ∧ t.es = s.es ++ xs ∧ (t.b = true → t.sz = 1) ∧ (t.b = false → t.es = []) := by
    intro s xs hs hl hb hz
    unfold Sx.app
    rw [if_pos]
    · split
      · rename_i hc; exact ⟨s, rfl, by rw [hc.2]; simp, hz, hb⟩
      · exact ⟨_, rfl, rfl, fun _ => rfl, fun h => by cases h⟩
    · refine ⟨?_, List.all_eq_true.2 fun x hx => by simp [hs x hx], ?_⟩
      · cases hsb : s.b with
        | false => exact .inl rfl
        | true => exact .inr (hz hsb)
      · show _ ≤ _
        omega
  obtain ⟨t1, a1, a2, a3, a4⟩ := app s0 (l.map uI) sz (by rw [h1]; simp; omega) (fun _ => h1) h2
  obtain ⟨t2, c1, c2, c3, c4⟩ := app t1 (r.map uI) sz' (by rw [a2, h1]; simp; omega) a4 a3
  have e2 : t2.es = (l ++ r).map uI := by rw [c2, a2, h1]; simp
  refine ⟨t2, ?_, e2, fun hne => ?_⟩
  · rw [y54_eq, hlen]
    simp only [Option.bind_some]
    rw [y54_1_eq]
    simp only [show ((0 : Int) < ((2 : Nat) : Int)) by omega, decide_true, if_true, i0, Option.bind_some, cell_uIs, len_uIs, w3, show ¬ ((l.length : Int) < 0) by omega, decide_false, Bool.false_eq_true, if_false]
    rw [y54_2_eq, w1, y54_1_eq]
    simp only [show ((1 : Int) < ((2 : Nat) : Int)) by omega, decide_true, if_true, i1, Option.bind_some, cell_uIs, len_uIs, w4, show ¬ (((l.length + r.length : Nat) : Int) < 0) by omega, decide_false, Bool.false_eq_true, if_false]
    rw [y54_2_eq, w2, y54_1_eq]
    simp only [show ¬ ((2 : Int) < ((2 : Nat) : Int)) by omega, decide_false, Bool.false_eq_true, if_false, h0, Option.bind_some, asSl_sl, hlen]
    rw [y54_3_eq]
    simp only [show ((0 : Int) < ((2 : Nat) : Int)) by omega, decide_true, if_true, i0, Option.bind_some, cell_uIs]
    simp only [uIs, U.asL, Option.bind_some, a1, w1]
    rw [y54_3_eq]
    simp only [uIs] at i1
    simp only [show ((1 : Int) < ((2 : Nat) : Int)) by omega, decide_true, if_true, i1, Option.bind_some, U.cell, U.cells, List.getElem?_cons_zero, U.asL, c1, w2]
    rw [y54_3_eq]
    simp only [show ¬ ((2 : Int) < ((2 : Nat) : Int)) by omega, decide_false, Bool.false_eq_true, if_false]
    rw [if_pos]
    rw [e2]; exact scals_ints _
  · cases hb : t2.b with
    | true => exact c3 hb
    | false => exact absurd (c4 hb) hne
end Go.Proofs.Ytglkhoamnmiolaa.R
