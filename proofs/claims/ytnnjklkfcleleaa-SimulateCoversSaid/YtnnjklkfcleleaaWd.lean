/-
  CHAPTER 20: what comes in, as lists.
-/
import Derived.Test.YtnnjklkfcleleaaWc
import Derived.Test.YtnnjklkfcleleaaVs
namespace Go.Proofs.Ytnnjklkfcleleaa.R
open Go Go.Proofs.Ytnnjklkfcleleaa.Vm
set_option linter.unusedVariables false
theorem ints_of {H : Heap} {c : C} {rows : List (List C)} (h : Sl H c 1 rows) (ht : ∀ r ∈ rows, Typed [.int .i64] r) : ∃ l, Ints H c l ∧ l.length = rows.length ∧ ∀ n ∈ l, (Lit.int .i64 n).wf = true := by
  have : ∃ l : List Int, rows = l.map rowI ∧ ∀ n ∈ l, (Lit.int .i64 n).wf = true := by
    clear h
    induction rows with
    | nil => exact ⟨[], rfl, fun _ h => (by cases h)⟩
    | cons r rs ih =>
      obtain ⟨l, rfl, hl⟩ := ih fun x hx => ht x (by simp [hx])
      obtain ⟨c, r', rfl, ⟨n, rfl, hw⟩, h2⟩ := ht r (by simp)
      have h2 : r' = [] := h2
      subst h2
      exact ⟨n :: l, rfl, fun m hm => (List.mem_cons.1 hm).elim (fun e => e ▸ hw) (hl m)⟩
  obtain ⟨l, rfl, hl⟩ := this
  exact ⟨l, h, by simp, hl⟩
theorem eds_of {H : Heap} {c : C} {rows : List (List C)} (h : Sl H c 3 rows) (ht : ∀ r ∈ rows, Typed [.int .i64, .int .i64, .int .i64] r) : ∃ es, Eds H c es ∧ es.length = rows.length := by
  have : ∃ l : List E, rows = l.map rowE := by
    clear h
    induction rows with
    | nil => exact ⟨[], rfl⟩
    | cons r rs ih =>
      obtain ⟨l, rfl⟩ := ih fun x hx => ht x (by simp [hx])
      obtain ⟨c, r', rfl, ⟨n, rfl, _⟩, c2, r2, rfl, ⟨n2, rfl, _⟩, c3, r3, rfl, ⟨n3, rfl, _⟩, h2⟩ := ht r (by simp)
      have h2 : r3 = [] := h2
      subst h2
      exact ⟨⟨n, n2, n3⟩ :: l, rfl⟩
  obtain ⟨l, rfl⟩ := this
  exact ⟨l, h, by simp⟩
end Go.Proofs.Ytnnjklkfcleleaa.R
