/-
  CHAPTER 19: a law's arguments are graphs and lists; the law of visible actions.
-/
import Derived.Test.YthjjbkiejkhjfaaWc
import Derived.Test.YthjjbkiejkhjfaaWx
import Derived.Test.YthjjbkiejkhjfaaWz
namespace Go.Proofs.Ythjjbkiejkhjfaa.R
open Go Go.Proofs.Ythjjbkiejkhjfaa.Vm
set_option linter.unusedVariables false
set_option linter.unusedSimpArgs false
theorem visible_all (us : List U) (h : TyPs [.struct [.int .i64, .sl [.int .i64], .sl [.int .i64, .int .i64, .int .i64]], .one (.sl [.int .i64])] us) :
    Vm.yrun yExt2 yprog md 5 0 (us.map .val) [] = some (.val (.c (.bool true))) := by
  obtain ⟨u1, _, rfl, h1, u2, _, rfl, h2, rfl⟩ := h
  obtain ⟨n, b1, l, b2, es, rfl⟩ := ty_graph h1
  obtain ⟨b3, lab, rfl⟩ := ty_ints h2
  exact visible_ok (M := MM) MM_ext y10_true
end Go.Proofs.Ythjjbkiejkhjfaa.R
