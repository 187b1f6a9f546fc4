/- A part of the proof. -/
import Derived.Test.YthjjbkiejkhjfaaOc
import Derived.Test.YthjjbkiejkhjfaaSy
import Derived.KernelRfl
namespace Go.Proofs.Ythjjbkiejkhjfaa.R
open Go Go.Proofs.Ythjjbkiejkhjfaa.Vm
def sxt:List (FuncId×(List Nat×List Nat)):=[(3,([3,7,10,12],[1,2,3,7,8,9])),(10,([3,5,7,11,12],[])),(11,([1],[])),(12,([],[0,3])),(13,([3,6,12],[3,6,10,39,40,53,54])),(14,([1,2],[])),(16,([],[0,3,4])),(17,([1],[])),(18,([2],[1,5])),(19,([2],[1,2,5,6,7,8])),(20,([2,3],[])),(21,([3,6],[2,3,6,8,9,10,13,14])),(22,([1],[1,3,4])),(23,([2,4,8,10],[1,4,8,31,32,33])),(25,([1],[])),(27,([],[0,1,5])),(32,([2],[1,2,5,6,7,8])),(34,([3,6,9],[])),(36,([1,7],[1,3,4,5,6])),(38,([3,6,16],[1,2,3,6,8,9,10,11,12,13,14,15,16,17,18,19,20])),(39,([],[0,1,5])),(42,([2],[1,2,5,6])),(47,([0],[])),(48,([1,6],[1,18,19,20,47,48,49])),(49,([],[5,6,7])),(50,([2],[])),(51,([2],[5,6,7,8,18,19,20,41,42,43])),(52,([3],[])),(53,([4],[])),(54,([9],[1,2,5,6,7,28,29,30])),(55,([1,5],[1,3,4])),(56,([3],[])),(57,([4,19],[1,3,4,9,10,11,12,13,15,16,17,18])),(58,([3,14],[1,2,3,7,8,9,10,11,12,13])),(61,([1,5],[3,16,17,18])),(62,([],[0,3,4,47,48,49])),(63,([],[1,5,7,8])),(66,([4,7],[1,4,5,12,13,14])),(67,([2,6],[0,2,3,4,8,15,16])),(70,([6],[0,1,2,6,8,10,14,17,19,26,27,62,63,64,76,77,78,119,120,121,141,142,143,167,168,169,189,190,191])),(71,([3],[1,2,3,7,8])),(72,([3,7,8],[3,7,8,9])),(73,([3,7,8],[3,7,8,9])),(74,([],[5,14,15])),(78,([2,3],[])),(81,([10,12],[2,3,5,6,7,8,10,29,30,31,38,39,40])),(82,([],[0,1,7,8])),(85,([2],[])),(87,([11,13],[0,2,3,9,11,14,15,16,23,24,25])),(88,([],[0,1,5])),(89,([1],[])),(90,([2],[1,2,5,6])),(91,([],[0,1,2,7])),(92,([],[0,1,7,8])),(93,([],[0,3,4,21,22,23])),(95,([4,5],[0,1,4,5,6])),(96,([2,3],[])),(97,([],[3,6,7,8])),(99,([4],[3,4,9,10])),(102,([],[0,1,5,9,23,24,25])),(103,([],[0,1,9,10,11])),(104,([3],[])),(105,([],[0,1,12,13])),(106,([2,3,4],[])),(111,([4],[0,2,4,8,9,10]))]
def sx(f:FuncId):List Nat×List Nat:=(sxt.lookup f).getD ([],[])
theorem aw0:((xrunN prog sx 0 4000).call 10 [] H0).map (·.1)=some (.c (.bool true)):=by kernel_rfl
theorem ext_ok(lim:Nat):CallOK lim Go.Proofs.Try.prog (fun f vs H=>awExt 10 f (vs.map .val) H):=awExt_ok prog_ok (xtrue aw0).choose_spec lim
def MM:YM:=⟨yExt2⟩
theorem MM_ext:MM.ext=yExt2:=rfl
theorem y10_true:y10 MM=some (.val (.c (.bool true))):=by
 unfold y10 yrunM
 rw[yrun_eq]
 kernel_rfl
theorem yprog_le: ∀f rf,yprog f=some rf→progOf 10 prog true f=some rf:=fun f rf h=>by
 unfold yprog at h
 unfold progOf
 by_cases h8:f=10
 ·subst h8;cases h
 ·rw[if_neg h8]
  split at h
  ·cases h
  ·exact h
theorem yExt2_ok(lim:Nat):CallsOK lim (callOf (run (awExt 10) (progOf 10 prog true) lim)) md yExt2:=
 CallsOK.or (open_ok rfl rfl) (yExt_ok (A:=10) rfl rfl lim)
theorem ylaw2{f:FuncId}(hf:md f=[.sc]){us:List U}{vs:List V}{H:Heap}
  (h:Vm.yrun yExt2 yprog md f 0 (us.map .val) []=some (.val (.c (.bool true)))) (hv:UVs H (fun i=>i<H.next) us vs): ∃H',Vm.run (awExt 10) (progOf 10 prog true) H.next f 0 (vs.map .val) H=some (.c (.bool true),H'):=by
 obtain⟨v,H',F',h1, -, -, -, -, -,h2⟩:=yrun_sound (vext:=awExt 10) (yext:=yExt2) (prog:=progOf 10 prog true) (lim:=H.next) yprog_le (yExt2_ok _) f us _ h H (fun i=>i<H.next) vs (nR _) (fun _ h=>h) hv
 rw[hf]at h2
 obtain⟨_,h3⟩:=h2
 exact⟨H',by rw[←h3.c_eq];exact h1⟩
end Go.Proofs.Ythjjbkiejkhjfaa.R
