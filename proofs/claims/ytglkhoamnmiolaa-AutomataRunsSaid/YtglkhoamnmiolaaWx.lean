/-
  CHAPTER 14: 'awake' answers true (a run of the abstract machine without arguments, by the kernel); the machine with it outside.
-/
import Derived.Test.YtglkhoamnmiolaaSy
import Derived.Test.YtglkhoamnmiolaaE9
import Derived.KernelRfl
namespace Go.Proofs.Ytglkhoamnmiolaa.R
open Go Go.Proofs.Ytglkhoamnmiolaa.Vm
def sxt : List (FuncId × (List Nat × List Nat)) := [(5, ([3, 4, 5], [])), (8, ([5], [])), (9, ([1], [1, 3])), (10, ([1, 2], [])), (11, ([1, 2], [])), (12, ([1], [])), (15, ([1], [1, 3])), (16, ([2, 3, 10], [2, 3, 5, 6, 7, 8, 9, 11, 12, 13, 14, 15, 16, 17])), (17, ([1], [])), (18, ([2, 3, 7], [])), (19, ([1, 2], [])), (22, ([3, 4, 5], [3, 4, 5, 10, 11, 12, 13, 14, 15])), (23, ([3, 4, 5], [3, 4, 5, 11, 14, 15, 16, 79, 80, 81, 101, 102, 103, 133, 134, 135])), (24, ([1, 2], [])), (25, ([1, 9], [1, 49, 50, 51, 87, 88, 89])), (27, ([1, 7], [1, 4, 6, 8, 9])), (35, ([0], [])), (36, ([1], [])), (37, ([1, 2, 15], [1, 2, 6, 7, 9, 10, 12, 13, 38, 39, 40])), (39, ([], [0, 3, 4])), (42, ([2], [])), (43, ([2], [1, 2, 5])), (44, ([], [0, 1, 5, 6, 7, 8, 9, 10, 11, 12])), (45, ([2, 3], [])), (46, ([3, 4, 5, 10], [2, 4, 5, 6, 7, 8, 36, 37, 38, 53, 54, 55, 90, 91, 92])), (47, ([2], [])), (48, ([2], [])), (49, ([], [0, 1, 5])), (50, ([3, 4], [2, 3, 4, 7])), (51, ([2], [])), (52, ([], [3, 6, 7, 8])), (54, ([], [0, 3, 6, 9, 10, 11, 25, 26, 27])), (57, ([2], [])), (59, ([4], [])), (60, ([2], [])), (63, ([], [0, 1, 9, 10, 11])), (65, ([3], [])), (69, ([1], [])), (72, ([1, 6], [1, 4, 7, 14, 15, 16, 37, 38, 39])), (73, ([], [0, 9, 14, 16, 17, 49, 50, 51])), (75, ([], [0, 1, 7, 8])), (76, ([3], [])), (77, ([1, 2], [])), (82, ([], [0, 3, 4, 5])), (83, ([], [0, 1, 2, 7, 8, 9, 10, 11])), (84, ([1], [])), (85, ([], [0, 2, 7, 12, 13])), (88, ([], [1, 4, 7, 8, 9])), (89, ([], [0, 1])), (90, ([], [0, 1, 7, 8])), (91, ([], [0, 1, 7, 8])), (92, ([], [0, 1, 2, 7, 10, 11, 16, 17, 20, 22, 23, 24, 35, 36, 37, 42, 43, 44, 74, 75, 76, 83, 84, 108, 109, 131, 132])), (93, ([], [3, 19, 20])), (95, ([], [0, 1, 6, 7, 8])), (99, ([], [0, 2, 3, 4, 12, 13, 14, 17, 25, 26, 27, 64, 65, 66])), (105, ([1, 2], [])), (109, ([], [0, 1, 51, 52, 53])), (111, ([], [0, 1, 4])), (112, ([], [0, 2, 3])), (113, ([1, 2], [2, 3, 4, 5])), (117, ([], [0, 1, 12, 13]))]
def sx (f : FuncId) : List Nat × List Nat := (sxt.lookup f).getD ([], [])
theorem aw0 : ((xrunN prog sx 0 4000).call 8 [] H0).map (·.1) = some (.c (.bool true)) := by kernel_rfl
theorem ext_ok (lim : Nat) : CallOK lim Go.Proofs.Try.prog (fun f vs H => awExt 8 f (vs.map .val) H) := awExt_ok prog_ok (xtrue aw0).choose_spec lim
def MM : YM := ⟨yExt 8⟩
theorem y8_true : y8 MM = some (.val (.c (.bool true))) := by
  unfold y8 yrunM
  rw [yrun_eq]
  kernel_rfl
theorem yprog_le : ∀ f rf, yprog f = some rf → progOf 8 prog true f = some rf := fun f rf h => by
  unfold yprog at h
  unfold progOf
  by_cases h8 : f = 8
  · subst h8; cases h
  · rw [if_neg h8]
    split at h
    · cases h
    · exact h
end Go.Proofs.Ytglkhoamnmiolaa.R
