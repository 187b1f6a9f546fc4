/-
  CHAPTER 14: a law's arguments are automata and words.
-/
import Derived.Test.YtglkhoamnmiolaaWf
import Derived.Test.YtglkhoamnmiolaaWx
namespace Go.Proofs.Ytglkhoamnmiolaa.R
open Go Go.Proofs.Ytglkhoamnmiolaa.Vm
set_option linter.unusedVariables false
set_option linter.unusedSimpArgs false
theorem ty_int {u : U} (h : TyN (.int .i64) u) : ∃ n, u = uI n := by
  simp only [TyN] at h
  obtain ⟨n, rfl, _⟩ := h
  exact ⟨n, rfl⟩
theorem ty_map {α : Type} {g : α → U} : ∀ {es : List U}, (∀ e ∈ es, ∃ x, e = g x) → ∃ l : List α, es = l.map g
  | [], _ => ⟨[], rfl⟩
  | e :: es, h => by
    obtain ⟨x, rfl⟩ := h e (by simp)
    obtain ⟨l, rfl⟩ := ty_map (es := es) fun e he => h e (by simp [he])
    exact ⟨x :: l, rfl⟩
theorem ty_ints {u : U} (h : TyN (.sl [.int .i64]) u) : ∃ b l, u = uIs b l := by
  rw [TyN] at h
  obtain ⟨b, es, rfl, _, _, h⟩ := h
  obtain ⟨l, rfl⟩ := ty_map (g := uI) (es := es) fun e he => by
    have := h e he
    rw [TyR] at this
    exact ty_int this
  exact ⟨b, l, rfl⟩
theorem ty_edges {u : U} (h : TyN (.sl [.int .i64, .int .i64, .int .i64, .int .i64]) u) : ∃ b l, u = uEs b l := by
  rw [TyN] at h
  obtain ⟨b, es, rfl, _, _, h⟩ := h
  obtain ⟨l, rfl⟩ := ty_map (g := uE) (es := es) fun e he => by
    have := h e he
    simp only [TyR, TyNs, TyN] at this
    obtain ⟨_, rfl, _, _, rfl, ⟨n1, rfl, _⟩, _, _, rfl, ⟨n2, rfl, _⟩, _, _, rfl, ⟨n3, rfl, _⟩, _, _, rfl, ⟨n4, rfl, _⟩, rfl⟩ := this
    exact ⟨⟨n1, n2, n3, n4⟩, rfl⟩
  exact ⟨b, l, rfl⟩
theorem ty_lists {u : U} (h : TyN (.sl [.sl [.int .i64]]) u) : ∃ b l, u = uLs b l := by
  rw [TyN] at h
  obtain ⟨b, es, rfl, _, _, h⟩ := h
  obtain ⟨l, rfl⟩ := ty_map (g := fun x : Bool × List Int => uIs x.1 x.2) (es := es) fun e he => by
    have := h e he
    rw [TyR] at this
    obtain ⟨b, l, rfl⟩ := ty_ints this
    exact ⟨(b, l), rfl⟩
  exact ⟨b, l, rfl⟩
theorem ty_auto {u : U} (h : TyP (.struct [.int .i64, .sl [.int .i64], .sl [.int .i64, .int .i64, .int .i64, .int .i64], .sl [.sl [.int .i64]]]) u) : ∃ a b1 l b2 es b3 xs, u = .st [uI a, uIs b1 l, uEs b2 es, uLs b3 xs] := by
  obtain ⟨us, rfl, h⟩ := h
  simp only [TyNs] at h
  obtain ⟨_, _, rfl, h1, _, _, rfl, h2, _, _, rfl, h3, _, _, rfl, h4, rfl⟩ := h
  obtain ⟨a, rfl⟩ := ty_int h1
  obtain ⟨b1, l, rfl⟩ := ty_ints h2
  obtain ⟨b2, es, rfl⟩ := ty_edges h3
  obtain ⟨b3, xs, rfl⟩ := ty_lists h4
  exact ⟨a, b1, l, b2, es, b3, xs, rfl⟩
theorem ty_word {u : U} (h : TyP (.struct [.sl [.int .i64], .sl [.int .i64]]) u) : ∃ b1 l b2 r, u = .st [uIs b1 l, uIs b2 r] := by
  obtain ⟨us, rfl, h⟩ := h
  simp only [TyNs] at h
  obtain ⟨_, _, rfl, h1, _, _, rfl, h2, rfl⟩ := h
  obtain ⟨b1, l, rfl⟩ := ty_ints h1
  obtain ⟨b2, r, rfl⟩ := ty_ints h2
  exact ⟨b1, l, b2, r, rfl⟩
theorem runs_all (us : List U) (h : TyPs [.struct [.int .i64, .sl [.int .i64], .sl [.int .i64, .int .i64, .int .i64, .int .i64], .sl [.sl [.int .i64]]], .struct [.sl [.int .i64], .sl [.int .i64]], .struct [.sl [.int .i64], .sl [.int .i64]]] us) :
    Vm.yrun (yExt 8) yprog md 5 0 (us.map .val) [] = some (.val (.c (.bool true))) := by
  obtain ⟨u1, _, rfl, h1, u2, _, rfl, h2, u3, _, rfl, h3, rfl⟩ := h
  obtain ⟨a, b1, l, b2, es, b3, xs, rfl⟩ := ty_auto h1
  obtain ⟨b4, w0, b5, w1, rfl⟩ := ty_word h2
  obtain ⟨b6, r0, b7, r1, rfl⟩ := ty_word h3
  exact runs_ok (M := MM) y8_true
end Go.Proofs.Ytglkhoamnmiolaa.R
