/-
  CHAPTER 20: the small functions, the numbers.
-/
import Derived.Test.YtnnjklkfcleleaaSa
import Derived.Test.YtnnjklkfcleleaaTa
import Derived.Test.YtnnjklkfcleleaaVq
namespace Go.Proofs.Ytnnjklkfcleleaa.R
open Go Go.Proofs.Ytnnjklkfcleleaa.Vm
set_option linter.unusedVariables false
set_option linter.unusedSimpArgs false

/-! ### awake -/
def okT : Rs → Bool
  | some (.c (.bool true), _) => true
  | _ => false
theorem awakeT : okT ((tabN 0 300).f10 H0) = true := by kernel_rfl
theorem awake_runs : ∃ H', Vm.run noExt (progOf 10 prog false) 0 10 0 [] H0 = some (.c (.bool true), H') := by
  have h := awakeT
  cases hr : (tabN 0 300).f10 H0 with
  | none => rw [hr] at h; cases h
  | some q =>
    obtain ⟨v, H'⟩ := q
    rw [hr] at h
    have hl := (tabN_le ⟨noExt, 0, false⟩ rfl 300).f10 H0 _ hr
    refine ⟨H', ?_⟩
    have : v = .c (.bool true) := by
      cases v with
      | c x => cases x with
        | bool b => cases b with
          | true => rfl
          | false => cases h
        | _ => cases h
      | _ => cases h
    rw [this] at hl
    exact hl
/-- the machine of the laws: awake is outside -/
abbrev awId : Nat := 10
def MM (lim : Nat) : Mach := ⟨awExt 10, lim, true⟩
theorem MM_ok (lim : Nat) : CallOK lim Go.Proofs.Try.prog (fun f vs H => (MM lim).ext f (vs.map .val) H) := by
  obtain ⟨H', h⟩ := awake_runs
  exact awExt_ok (progOf_ok prog_ok 10 false) h lim
theorem f10_out (lim : Nat) (H : Heap) : f10 (MM lim) H = some (.c (.bool true), H) := by
  unfold f10 mrun; rw [run_eq]; kernel_rfl

/-! ### the small ones -/
variable {M : Mach}
theorem f44_is (n lo hi : Int) (H : Heap) : f44 M n lo hi H = some (.c (.bool (decide (lo ≤ n ∧ n ≤ hi))), H) := by
  rw [f44_eq]
  by_cases h : lo ≤ n <;> simp [h]
theorem f13_is (n lo hi : Int) (H : Heap) : f13 M n lo hi H = some (.c (.bool (decide (lo ≤ n ∧ n ≤ hi))), H) := by
  rw [f13_eq]
  by_cases h : lo ≤ n <;> simp [h]
theorem f43_is (b : Bool) (e : Int) (H : Heap) : f43 M b e H = some (.c (.int .i64 (if b then 0 else e)), H) := by
  rw [f43_eq]
  cases b <;> simp
theorem f42_is (s : Int) (H : Heap) : f42 M s H = some (.c (.int .i64 (if 1 ≤ s ∧ s ≤ 2147483646 then 0 else 3)), H) := by
  rw [f42_eq]
  simp [f44_is, f43_is]
theorem f12_is (s : Int) (H : Heap) : f12 M s H = some (.c (.int .i64 (if 1 ≤ s ∧ s ≤ 2147483646 then 0 else 3)), H) := by
  rw [f12_eq]
  by_cases h : 1 ≤ s ∧ s ≤ 2147483646 <;> simp [f13_is, h]

/-- the first that is not 0 -/
def firstErr : List Int → Int
  | [] => 0
  | e :: l => if e = 0 then firstErr l else e
theorem f41_1_is {c : C} {l : List Int} {H : Heap} (h : Ints H c l) (hn : l.length ≤ 1000000) : ∀ (d k : Nat), k + d = l.length → f41_1 M c (l.length : Int) (k : Int) H = some (.c (.int .i64 (firstErr (l.drop k))), H) := by
  intro d
  induction d with
  | zero =>
    intro k hk
    rw [f41_1_eq, List.drop_of_length_le (by omega)]
    simp [show ¬ ((k : Int) < l.length) by omega, firstErr]
  | succ d ih =>
    intro k hk
    have hlt : k < l.length := by omega
    obtain ⟨q, h1, h2⟩ := h.read (List.getElem?_eq_getElem hlt)
    rw [f41_1_eq, List.drop_eq_getElem_cons hlt]
    have hw : IntKind.wrap .i64 ((k : Int) + 1) = ((k + 1 : Nat) : Int) := by rw [wrap_in (by omega) (by omega)]; simp
    simp only [show ((k : Int) < l.length) by omega, decide_true, if_true, h1, h2, Option.bind_some, asI_int, firstErr, hw]
    by_cases h0 : l[k] = 0
    · simp only [h0, decide_true, Bool.not_true, Bool.false_eq_true, if_false, if_true]
      exact ih (k + 1) (by omega)
    · simp [h0]
theorem f41_is {c : C} {l : List Int} {H : Heap} (h : Ints H c l) (hn : l.length ≤ 1000000) : f41 M c H = some (.c (.int .i64 (firstErr l)), H) := by
  rw [f41_eq]
  simp only [h.len, Option.bind_some]
  exact f41_1_is h hn l.length 0 (by omega)

/-! ### numbers of a seed -/
def numStep (n : Int) : Int := Int.tmod (IntKind.wrap .i64 (n * 48271)) 2147483647
def nums : Nat → Int → List Int
  | 0, _ => []
  | k + 1, s => numStep s :: nums k (numStep s)
theorem nums_length : ∀ k s, (nums k s).length = k
  | 0, _ => rfl
  | k + 1, s => by simp [nums, nums_length k]
theorem f45_is {p : Nat} {n : Int} {H : Heap} (hl : M.lim ≤ p) (h : H.get p = some (.cells 1 [.int .i64 n])) : f45 M (.ptr p 0) H = some (.c (.int .i64 (numStep n)), H.put p (.cells 1 [.int .i64 (numStep n)])) := by
  rw [f45_eq]
  simp [Heap.ld, Heap.st, h, hl, splice, numStep]

theorem f11_1_is {H0 : Heap} (hM : M.lim ≤ H0.next) {p : Nat} (hp : H0.next ≤ p) : ∀ (d k : Nat) (s : Int) (l : List Int) (out : C) (H : Heap), k + d ≤ 1000 → Grow H0 H → p < H.next → H.get p = some (.cells 1 [.int .i64 s]) →
    OInts H H0.next out l → (∀ i o n, out = .slice i o n → i ≠ p) → l.length = k →
    ∃ c H', f11_1 M (.ptr p 0) out ((k + d : Nat) : Int) (k : Int) H = some (.tuple [.c c, .c (.int .i64 0)], H') ∧ Grow H0 H' ∧ OInts H' H0.next c (l ++ nums d s) := by
  intro d
  induction d with
  | zero =>
    intro k s l out H hk g hpn hg ho hne hl
    refine ⟨out, H, ?_, g, by simpa [nums] using ho⟩
    rw [f11_1_eq]
    simp
  | succ d ih =>
    intro k s l out H hk g hpn hg ho hne hl
    have hH1 : Kept (.slice p 0 0) H (H.put p (.cells 1 [.int .i64 (numStep s)])) := ⟨Nat.le_refl _, fun i hi hn => hput_other fun e => hn 0 0 (by rw [e])⟩
    have ho1 : OInts (H.put p (.cells 1 [.int .i64 (numStep s)])) H0.next out l := Own.kept ho hH1 (fun i o n q m e1 e2 => by cases e1; exact hne _ _ _ e2 rfl)
    obtain ⟨a1, c', H', a2, a3, a4, a5⟩ := ho1.append1 (lim := M.lim) hM (numStep s) (by omega)
    have g1 : Grow H0 (H.put p (.cells 1 [.int .i64 (numStep s)])) := ⟨g.next, fun i hi => by rw [hput_other (by omega)]; exact g.keep i hi⟩
    have g2 : Grow H0 H' := Own.kept_grow ho1 g1 a4
    have hpn' : p < H'.next := Nat.lt_of_lt_of_le hpn a4.next
    have hg' : H'.get p = some (.cells 1 [.int .i64 (numStep s)]) := by rw [a4.keep p hpn fun o n e => hne _ _ _ e rfl, put_same]
    obtain ⟨c, H2, b1, b2, b3⟩ := ih (k + 1) (numStep s) (l ++ [numStep s]) c' H' (by omega) g2 hpn' hg' a3 (fun i o n e => by
      rcases a5 with h | ⟨i', o', n', h, hi⟩
      · rw [h] at e; cases e
      · rw [h] at e; cases e
        have : H.next ≤ i := hi
        omega) (by simp [hl])
    refine ⟨c, H2, ?_, b2, by simpa [nums] using b3⟩
    rw [f11_1_eq]
    have hw : IntKind.wrap .i64 ((k : Int) + 1) = ((k + 1 : Nat) : Int) := by rw [wrap_in (by omega) (by omega)]; simp
    have he : k + (d + 1) = k + 1 + d := by omega
    simp only [show ((k : Int) < ((k + (d + 1) : Nat) : Int)) by omega, decide_true, if_true, f45_is (Nat.le_trans hM hp) hg, Option.bind_some, asC_c, asI_int, a1, a2, hw]
    rw [he]; exact b1

theorem f11_is {H : Heap} (hM : M.lim ≤ H.next) (s n : Int) :
    ∃ c H', f11 M s n H = some (.tuple [.c c, .c (.int .i64 (firstErr [if 1 ≤ s ∧ s ≤ 2147483646 then 0 else 3, if 0 ≤ n ∧ n ≤ 300 then 0 else 2]))], H') ∧ Grow H H' ∧
      OInts H' H.next c (if (1 ≤ s ∧ s ≤ 2147483646) ∧ (0 ≤ n ∧ n ≤ 300) then nums n.toNat s else []) := by
  rw [f11_eq]
  have hl := OInts.lit H (Nat.le_refl H.next) [if 1 ≤ s ∧ s ≤ 2147483646 then 0 else 3, if 0 ≤ n ∧ n ≤ 300 then 0 else 2] rfl (n := 2) rfl
  have he := f41_is (M := M) hl.ints (by simp)
  simp only [f42_is, f44_is, f43_is, Option.bind_some, asC_c, asI_int, asB_bool, decide_eq_true_eq, List.map_cons, List.map_nil] at he ⊢
  simp only [he, Option.bind_some, asC_c, asI_int]
  by_cases h1 : 1 ≤ s ∧ s ≤ 2147483646
  · by_cases h2 : 0 ≤ n ∧ n ≤ 300
    · simp only [h1, h2, and_self, if_true, firstErr, decide_true, Bool.not_true, if_false, Bool.false_eq_true]
      obtain ⟨d, rfl⟩ := Int.eq_ofNat_of_zero_le h2.1
      have g := (Grow.alloc H (.cells 1 [.int .i64 0, .int .i64 0])).to_alloc (.cells 1 [.int .i64 s])
      obtain ⟨c, H', b1, b2, b3⟩ := f11_1_is (M := M) hM (p := (H.alloc (.cells 1 [.int .i64 0, .int .i64 0])).next) (by simp) d 0 s [] .nilSlice _ (by omega) g (by simp) (alloc_new _ _) (Own.nil g.next 1) (fun i o n e => by cases e) rfl
      refine ⟨c, H', ?_, b2, by simpa using b3⟩
      simp only [Nat.zero_add] at b1
      exact b1
    · simp only [h1, h2, and_self, if_true, if_false, firstErr, and_false]
      exact ⟨.nilSlice, _, rfl, .alloc _ _, Own.nil (by simp) 1⟩
  · simp only [h1, if_false, firstErr, false_and]
    by_cases h2 : 0 ≤ n ∧ n ≤ 300 <;> simp only [h2, if_true, if_false] <;> exact ⟨.nilSlice, _, rfl, .alloc _ _, Own.nil (by simp) 1⟩

theorem f15_1_is {H0 : Heap} (hM : M.lim ≤ H0.next) : ∀ (d k : Nat) (s : Int) (l : List Int) (out : C) (H : Heap), k + d ≤ 1000 → Grow H0 H → OInts H H0.next out l → l.length = k →
    ∃ c H', f15_1 M s ((k + d : Nat) : Int) out (k : Int) H = some (.c c, H') ∧ Grow H0 H' ∧ OInts H' H0.next c (l ++ nums d s) := by
  intro d
  induction d with
  | zero =>
    intro k s l out H hk g ho hl
    refine ⟨out, H, ?_, g, by simpa [nums] using ho⟩
    rw [f15_1_eq]
    simp
  | succ d ih =>
    intro k s l out H hk g ho hl
    obtain ⟨a1, c', H', a2, a3, a4, a5⟩ := ho.append1 (lim := M.lim) hM (numStep s) (by omega)
    obtain ⟨c, H2, b1, b2, b3⟩ := ih (k + 1) (numStep s) (l ++ [numStep s]) c' H' (by omega) (Own.kept_grow ho g a4) a3 (by simp [hl])
    refine ⟨c, H2, ?_, b2, by simpa [nums] using b3⟩
    rw [f15_1_eq]
    have hw : IntKind.wrap .i64 ((k : Int) + 1) = ((k + 1 : Nat) : Int) := by rw [wrap_in (by omega) (by omega)]; simp
    have he : k + (d + 1) = k + 1 + d := by omega
    have hs : Int.tmod (IntKind.wrap .i64 (s * 48271)) 2147483647 = numStep s := rfl
    simp only [hs, show ((k : Int) < ((k + (d + 1) : Nat) : Int)) by omega, decide_true, if_true, Option.bind_some, a1, a2, hw]
    rw [he]; exact b1
theorem f15_is {H : Heap} (hM : M.lim ≤ H.next) (s n : Int) (h0 : 0 ≤ n) (h1 : n ≤ 1000) : ∃ c H', f15 M s n H = some (.c c, H') ∧ Grow H H' ∧ OInts H' H.next c (nums n.toNat s) := by
  obtain ⟨d, rfl⟩ := Int.eq_ofNat_of_zero_le h0
  obtain ⟨c, H', b1, b2, b3⟩ := f15_1_is (M := M) hM d 0 s [] .nilSlice H (by omega) (.refl _) (Own.nil (Nat.le_refl _) 1) rfl
  refine ⟨c, H', ?_, b2, by simpa using b3⟩
  rw [f15_eq]
  simp only [Nat.zero_add] at b1
  exact b1

/-! ### equality of lists -/
theorem f14_1_is {a b : C} {l l' : List Int} {H : Heap} (ha : Ints H a l) (hb : Ints H b l') (hl : l.length = l'.length) (hn : l.length ≤ 1000000) : ∀ (d k : Nat), k + d = l.length →
    f14_1 M a b (k : Int) H = some (.c (.bool (decide (l.drop k = l'.drop k))), H) := by
  intro d
  induction d with
  | zero =>
    intro k hk
    rw [f14_1_eq]
    simp only [ha.len, show ¬ ((k : Int) < l.length) by omega, Option.bind_some, decide_false, Bool.false_eq_true, if_false, List.drop_of_length_le (show l.length ≤ k by omega), List.drop_of_length_le (show l'.length ≤ k by omega), decide_true]
  | succ d ih =>
    intro k hk
    have h1 : k < l.length := by omega
    have h2 : k < l'.length := by omega
    obtain ⟨q, c1, c2⟩ := ha.read (List.getElem?_eq_getElem h1)
    obtain ⟨q', c3, c4⟩ := hb.read (List.getElem?_eq_getElem h2)
    rw [f14_1_eq]
    have hw : IntKind.wrap .i64 ((k : Int) + 1) = ((k + 1 : Nat) : Int) := by rw [wrap_in (by omega) (by omega)]; simp
    simp only [ha.len, show ((k : Int) < l.length) by omega, decide_true, if_true, c1, c2, c3, c4, Option.bind_some, asI_int, hw]
    rw [List.drop_eq_getElem_cons h1, List.drop_eq_getElem_cons h2]
    by_cases h0 : l[k] = l'[k]
    · simp only [h0, decide_true, Bool.not_true, Bool.false_eq_true, if_false, ih (k + 1) (by omega), List.cons.injEq, true_and]
    · simp only [h0, decide_false, Bool.not_false, if_true, List.cons.injEq, false_and]
theorem f14_is {a b : C} {l l' : List Int} {H : Heap} (ha : Ints H a l) (hb : Ints H b l') (hn : l.length ≤ 1000000) : f14 M a b H = some (.c (.bool (decide (l = l'))), H) := by
  rw [f14_eq]
  simp only [ha.len, hb.len, Option.bind_some]
  by_cases h : l.length = l'.length
  · simp only [h, decide_true, Bool.not_true, Bool.false_eq_true, if_false]
    exact f14_1_is ha hb h hn l.length 0 (by omega)
  · have : ¬ ((l.length : Int) = (l'.length : Int)) := by omega
    have hne : l ≠ l' := fun e => h (by rw [e])
    simp [this, hne]

/-! ### the law -/
theorem f3_is (seed count : Int) {H : Heap} (lim : Nat) (hl : lim ≤ H.next) : ∃ H', f3 (MM lim) seed count H = some (.c (.bool true), H') := by
  rw [f3_eq, f10_out]
  obtain ⟨c, H1, h1, g1, o1⟩ := f11_is (M := MM lim) hl seed count
  simp only [Option.bind_some, asC_c, asB_bool, Bool.not_true, Bool.false_eq_true, if_false, h1, ext_tuple, List.getElem?_cons_zero, List.getElem?_cons_succ, asI_int, f12_is, f13_is]
  by_cases hs : 1 ≤ seed ∧ seed ≤ 2147483646
  · by_cases hc : 0 ≤ count ∧ count ≤ 300
    · obtain ⟨c2, H2, h2, g2, o2⟩ := f15_is (M := MM lim) (H := H1) (Nat.le_trans hl g1.next) seed count hc.1 (by omega)
      simp only [hs, hc, and_self, if_true] at o1
      have h3 := f14_is (M := MM lim) (o1.ints.grow g2) o2.ints (by rw [nums_length]; omega)
      exact ⟨H2, by simp [hs, hc, firstErr, h2, h3]⟩
    · have hnil : C.len c = some 0 := by have := o1.ints.len; simpa [hs, hc] using this
      exact ⟨H1, by simp [hs, hc, firstErr, hnil]⟩
  · have hnil : C.len c = some 0 := by have := o1.ints.len; simpa [hs] using this
    exact ⟨H1, by simp [hs, firstErr, hnil]⟩
end Go.Proofs.Ytnnjklkfcleleaa.R
