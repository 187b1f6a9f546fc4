/-
  CHAPTER 19: visible actions; the law.
-/
import Derived.Test.YthjjbkiejkhjfaaWb
namespace Go.Proofs.Ythjjbkiejkhjfaa.R
open Go Go.Proofs.Ythjjbkiejkhjfaa.Vm
set_option linter.unusedVariables false
set_option linter.unusedSimpArgs false
variable {M : YM}
/-- twelve truth values -/
def bV (p : Nat → Bool) : U := .st ((List.range 12).map fun a => .c (.bool (p a)))
theorem bV_get {p : Nat → Bool} {a : Nat} (h : a < 12) : ((List.range 12).map fun a => U.c (.bool (p a)))[a]? = some (.c (.bool (p a))) := by
  simp [List.getElem?_map, h]
theorem cell_bV {p : Nat → Bool} {a : Nat} (h : a < 12) : U.cell (bV p) a = some (.c (.bool (p a))) := bV_get h
theorem setc_bV {p : Nat → Bool} {a : Nat} {q : Bool} (h : a < 12) : U.setc (bV p) a (.c (.bool q)) = some (bV fun j => if j = a then q else p j) := by
  simp only [bV, U.setc, U.size]
  simp [h]
  refine List.ext_getElem? fun j => ?_
  rw [List.getElem?_set]
  by_cases hj : j < 12
  · by_cases hja : a = j
    · subst hja; simp [hj]
    · have : ¬ j = a := fun e => hja e.symm
      simp [hja, this, hj]
  · have : ¬ a = j := by omega
    simp [this, hj]
theorem struct_bV (p : Nat → Bool) : ∃ f, U.struct (bV p) 0 ks3 = some f ∧ ∀ a, a < 12 → f a = .c (.bool (p a)) := by
  refine ⟨fun i => ((List.range 12).map fun a => U.c (.bool (p a))).getD (0 + i) (.c .junk), ?_, fun a ha => ?_⟩
  · simp [U.struct, bV, ks3, hasKs, U.hasK, List.range, List.range.loop]
  · show ((List.range 12).map fun a => U.c (.bool (p a))).getD (0 + a) (.c .junk) = _
    rw [Nat.zero_add, List.getD_eq_getElem?_getD, bV_get ha]
    rfl
theorem bV_lit (p : Nat → Bool) : bV p = .st [.c (.bool (p 0)), .c (.bool (p 1)), .c (.bool (p 2)), .c (.bool (p 3)), .c (.bool (p 4)), .c (.bool (p 5)), .c (.bool (p 6)), .c (.bool (p 7)), .c (.bool (p 8)), .c (.bool (p 9)), .c (.bool (p 10)), .c (.bool (p 11))] := rfl
theorem exact_bV (p : Nat → Bool) : ∃ f, U.exact (bV p) ks3 = some f ∧ ∀ a, a < 12 → f a = .c (.bool (p a)) := by
  refine ⟨fun i => ((List.range 12).map fun a => U.c (.bool (p a))).getD i (.c .junk), ?_, fun a ha => ?_⟩
  · simp [U.exact, bV, ks3, hasKs, U.hasK, List.range, List.range.loop]
  · show ((List.range 12).map fun a => U.c (.bool (p a))).getD a (.c .junk) = _
    rw [List.getD_eq_getElem?_getD, bV_get ha]
    rfl
def shows (lab : List Int) (a : Int) (e : E3) : Bool := decide (e.a = a) && !decide (at0 lab e.f.toNat = at0 lab e.t.toNat)
def visB (lab : List Int) (es : List E3) (a : Nat) : Bool := es.any (shows lab a)
section
variable {N : Nat} {b1 b2 b3 : Bool} {l lab : List Int} {es : List E3}
/-- the error of a graph with labels -/
def glErr (n : Int) (l : List Int) (es : List E3) (lab : List Int) : Int := if gErr n l es = 0 then lErr n lab else gErr n l es
theorem lErr_len {n : Int} (h : lErr n lab = 0) : (lab.length : Int) = n := by
  unfold lErr at h
  split at h
  · assumption
  · cases h
end
end Go.Proofs.Ythjjbkiejkhjfaa.R
