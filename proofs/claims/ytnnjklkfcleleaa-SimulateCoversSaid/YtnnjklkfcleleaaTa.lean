import Derived.Test.YtnnjklkfcleleaaSa
namespace Go.Proofs.Ytnnjklkfcleleaa.R
open Go Go.Proofs.Ytnnjklkfcleleaa.Vm
set_option linter.unusedVariables false
set_option linter.unusedSimpArgs false
structure Tab where
  f10 : Heap → Rs
  f11 : Int → Int → Heap → Rs
  f14 : C → C → Heap → Rs
  f17 : Int → C → C → Heap → Rs
  f19 : Int → C → C → Int → Heap → Rs
  f25 : Int → C → C → C → Int → Int → Heap → Rs
  f39 : Heap → Rs
  f40 : Heap → Rs
  f11_1 : C → C → Int → Int → Heap → Rs
  f41 : C → Heap → Rs
  f42 : Int → Heap → Rs
  f43 : Bool → Int → Heap → Rs
  f44 : Int → Int → Int → Heap → Rs
  f14_1 : C → C → Int → Heap → Rs
  f46 : Int → C → C → Heap → Rs
  f47 : Int → C → C → C → Heap → Rs
  f48 : Int → C → C → C → C → Int → Heap → Rs
  f25_1 : C → Int → C → C → Int → Int → Int → C → Bool → C → C → Int → Int → C → Bool → Heap → Rs
  f45 : C → Heap → Rs
  f52 : C → Heap → Rs
  f53 : Int → C → C → Heap → Rs
  f40_1 : C → Int → Heap → Rs
  f41_1 : C → Int → Int → Heap → Rs
  f46_1 : C → C → C → Bool → C → Int → Int → Heap → Rs
  f62 : Int → C → Heap → Rs
  f63 : Int → Int → Int → Int → Int → Int → Heap → Rs
  f47_1 : Int → C → C → Int → C → C → C → C → C → Int → C → C → C → C → C → C → Int → Int → Heap → Rs
  f66 : C → Int → Heap → Rs
  f67 : C → Heap → Rs
  f48_1 : Int → Int → C → C → C → C → C → Heap → Rs
  f25_2 : C → Int → C → C → Int → Int → Int → C → Bool → C → C → Int → Int → C → Bool → Int → C → Int → Int → Heap → Rs
  f70 : C → C → Heap → Rs
  f71 : Int → Heap → Rs
  f53_1 : C → C → Int → Int → Heap → Rs
  f46_2 : C → C → C → Bool → C → Int → Int → Heap → Rs
  f64 : C → Heap → Rs
  f65 : Int → Int → Heap → Rs
  f47_2 : Int → C → C → Int → C → C → C → C → C → Int → C → C → C → C → C → Heap → Rs
  f66_1 : C → Int → Heap → Rs
  f68 : C → Heap → Rs
  f25_3 : C → Int → C → C → Int → Int → Int → C → Bool → C → C → Int → Int → C → Bool → Int → C → Int → Int → Heap → Rs
  f73 : C → C → Heap → Rs
  f64_1 : Int → C → Int → Int → Heap → Rs
  f74 : Int → Heap → Rs
  f47_3 : Int → C → C → Int → C → C → C → C → C → Int → C → C → C → C → C → Int → C → Int → Int → Heap → Rs
  f66_2 : C → Int → Heap → Rs
  f75 : Int → Int → Heap → Rs
  f68_1 : C → Int → Int → Heap → Rs
  f73_1 : C → C → Int → Int → Heap → Rs
  f47_4 : Int → C → C → Int → C → C → C → C → C → Int → C → C → C → C → C → Int → C → Int → Int → Heap → Rs
  f66_3 : C → Int → Heap → Rs
  f78 : Int → Int → Heap → Rs
  call : FuncId → List V → Heap → Rs
def b10 (T : Tab) (lim : Nat) (H : Heap) : Rs :=
  (T.f11 1 2 H).bind fun q1 =>
  (V.ext q1.1 0).bind fun v2 =>
  (V.asC v2).bind fun c3 =>
  (V.ext q1.1 1).bind fun v4 =>
  (V.asC v4).bind fun c5 =>
  (C.asI .i64 c5).bind fun n6 =>
  (T.f39 q1.2).bind fun q7 =>
  (V.asA q7.1).bind fun c8 =>
  (headC c8).bind fun c9 =>
  (C.asI .i64 c9).bind fun n10 =>
  (headC (c8.drop 1)).bind fun c11 =>
  (headC ((c8.drop 1).drop 1)).bind fun c12 =>
  (if ((((c8.drop 1).drop 1).drop 1)).length = 0 then
  (T.f40 q7.2).bind fun q13 =>
  (V.asC q13.1).bind fun c14 =>
  (T.f25 n10 c11 c12 c14 1 2 q13.2).bind fun q15 =>
  (V.ext q15.1 0).bind fun v16 =>
  (V.asA v16).bind fun c17 =>
  (headC c17).bind fun c18 =>
  (C.asI .i64 c18).bind fun n19 =>
  (headC (c17.drop 1)).bind fun c20 =>
  (headC ((c17.drop 1).drop 1)).bind fun c21 =>
  (C.asB c21).bind fun b22 =>
  (if ((((c17.drop 1).drop 1).drop 1)).length = 0 then
  (V.ext q15.1 1).bind fun v23 =>
  (V.asC v23).bind fun c24 =>
  (C.asI .i64 c24).bind fun n25 =>
  (T.f40 q15.2).bind fun q26 =>
  (V.asC q26.1).bind fun c27 =>
  (C.elem 1 c27 0).bind fun q28 =>
  (Heap.st lim q26.2 q28.1 q28.2 [(.int .i64 0)]).bind fun H29 =>
  (T.f39 H29).bind fun q30 =>
  (V.asA q30.1).bind fun c31 =>
  (headC c31).bind fun c32 =>
  (C.asI .i64 c32).bind fun n33 =>
  (headC (c31.drop 1)).bind fun c34 =>
  (headC ((c31.drop 1).drop 1)).bind fun c35 =>
  (if ((((c31.drop 1).drop 1).drop 1)).length = 0 then
  (T.f25 n33 c34 c35 c27 1 2 q30.2).bind fun q36 =>
  (V.ext q36.1 0).bind fun v37 =>
  (V.asA v37).bind fun c38 =>
  (headC c38).bind fun c39 =>
  (C.asI .i64 c39).bind fun n40 =>
  (headC (c38.drop 1)).bind fun c41 =>
  (headC ((c38.drop 1).drop 1)).bind fun c42 =>
  (C.asB c42).bind fun b43 =>
  (if ((((c38.drop 1).drop 1).drop 1)).length = 0 then
  (V.ext q36.1 1).bind fun v44 =>
  (V.asC v44).bind fun c45 =>
  (C.asI .i64 c45).bind fun n46 =>
  (T.f39 q36.2).bind fun q47 =>
  (V.asA q47.1).bind fun c48 =>
  (headC c48).bind fun c49 =>
  (C.asI .i64 c49).bind fun n50 =>
  (headC (c48.drop 1)).bind fun c51 =>
  (headC ((c48.drop 1).drop 1)).bind fun c52 =>
  (if ((((c48.drop 1).drop 1).drop 1)).length = 0 then
  (T.f17 n50 c51 c52 q47.2).bind fun q53 =>
  (V.ext q53.1 0).bind fun v54 =>
  (V.asC v54).bind fun c55 =>
  (V.ext q53.1 1).bind fun v56 =>
  (V.asC v56).bind fun c57 =>
  (C.asI .i64 c57).bind fun n58 =>
  (T.f39 q53.2).bind fun q59 =>
  (V.asA q59.1).bind fun c60 =>
  (headC c60).bind fun c61 =>
  (C.asI .i64 c61).bind fun n62 =>
  (headC (c60.drop 1)).bind fun c63 =>
  (headC ((c60.drop 1).drop 1)).bind fun c64 =>
  (if ((((c60.drop 1).drop 1).drop 1)).length = 0 then
  (T.f19 n62 c63 c64 2 q59.2).bind fun q65 =>
  (V.ext q65.1 0).bind fun v66 =>
  (V.asA v66).bind fun c67 =>
  (headC c67).bind fun c68 =>
  (C.asI .i64 c68).bind fun n69 =>
  (headC (c67.drop 1)).bind fun c70 =>
  (headC ((c67.drop 1).drop 1)).bind fun c71 =>
  (C.asB c71).bind fun b72 =>
  (if ((((c67.drop 1).drop 1).drop 1)).length = 0 then
  (V.ext q65.1 1).bind fun v73 =>
  (V.asC v73).bind fun c74 =>
  (C.asI .i64 c74).bind fun n75 =>
  (if (decide (n6 = 0)) = true then
  let H77 := Heap.alloc q65.2 (.cells 1 [(.int .i64 48271), (.int .i64 182605794)])
  (T.f14 c3 (.slice q65.2.next 0 2) H77).bind fun q78 =>
  (V.asC q78.1).bind fun c79 =>
  (C.asB c79).bind fun b80 =>
  some (b80, q78.2)
  else
  some (decide (n6 = 0), q65.2)).bind fun q76 =>
  (if q76.1 = true then
  some (decide (n25 = 0), q76.2)
  else
  some (q76.1, q76.2)).bind fun q81 =>
  (if q81.1 = true then
  let H83 := Heap.alloc q81.2 (.cells 1 [(.int .i64 0), (.int .i64 2)])
  (T.f14 c20 (.slice q81.2.next 0 2) H83).bind fun q84 =>
  (V.asC q84.1).bind fun c85 =>
  (C.asB c85).bind fun b86 =>
  some (b86, q84.2)
  else
  some (q81.1, q81.2)).bind fun q82 =>
  (if q82.1 = true then
  some (!b22, q82.2)
  else
  some (q82.1, q82.2)).bind fun q87 =>
  (if q87.1 = true then
  some (decide (n46 = 0), q87.2)
  else
  some (q87.1, q87.2)).bind fun q88 =>
  (if q88.1 = true then
  let H90 := Heap.alloc q88.2 (.cells 1 [(.int .i64 1)])
  (T.f14 c41 (.slice q88.2.next 0 1) H90).bind fun q91 =>
  (V.asC q91.1).bind fun c92 =>
  (C.asB c92).bind fun b93 =>
  some (b93, q91.2)
  else
  some (q88.1, q88.2)).bind fun q89 =>
  (if q89.1 = true then
  some (b43, q89.2)
  else
  some (q89.1, q89.2)).bind fun q94 =>
  (if q94.1 = true then
  some (decide (n58 = 0), q94.2)
  else
  some (q94.1, q94.2)).bind fun q95 =>
  (if q95.1 = true then
  let H97 := Heap.alloc q95.2 (.cells 1 [(.int .i64 0), (.int .i64 1), (.int .i64 1)])
  (T.f14 c55 (.slice q95.2.next 0 3) H97).bind fun q98 =>
  (V.asC q98.1).bind fun c99 =>
  (C.asB c99).bind fun b100 =>
  some (b100, q98.2)
  else
  some (q95.1, q95.2)).bind fun q96 =>
  (if q96.1 = true then
  some (decide (n75 = 0), q96.2)
  else
  some (q96.1, q96.2)).bind fun q101 =>
  (if q101.1 = true then
  let H103 := Heap.alloc q101.2 (.cells 1 [(.int .i64 1)])
  (T.f14 c70 (.slice q101.2.next 0 1) H103).bind fun q104 =>
  (V.asC q104.1).bind fun c105 =>
  (C.asB c105).bind fun b106 =>
  some (b106, q104.2)
  else
  some (q101.1, q101.2)).bind fun q102 =>
  some ((.c (.bool q102.1)), q102.2)
  else
  none)
  else
  none)
  else
  none)
  else
  none)
  else
  none)
  else
  none)
  else
  none)
def b11 (T : Tab) (lim : Nat) (seed : Int) (count : Int) (H : Heap) : Rs :=
  (T.f42 seed H).bind fun q1 =>
  (V.asC q1.1).bind fun c2 =>
  (C.asI .i64 c2).bind fun n3 =>
  (T.f44 count 0 300 q1.2).bind fun q4 =>
  (V.asC q4.1).bind fun c5 =>
  (C.asB c5).bind fun b6 =>
  (T.f43 b6 2 q4.2).bind fun q7 =>
  (V.asC q7.1).bind fun c8 =>
  (C.asI .i64 c8).bind fun n9 =>
  let H10 := Heap.alloc q7.2 (.cells 1 [(.int .i64 n3), (.int .i64 n9)])
  (T.f41 (.slice q7.2.next 0 2) H10).bind fun q11 =>
  (V.asC q11.1).bind fun c12 =>
  (C.asI .i64 c12).bind fun n13 =>
  (if (!decide (n13 = 0)) = true then
  some ((.tuple [(.c .nilSlice), (.c (.int .i64 n13))]), q11.2)
  else
  let H14 := Heap.alloc q11.2 (.cells 1 [(.int .i64 seed)])
  T.f11_1 (.ptr q11.2.next 0) .nilSlice count 0 H14)
def b14 (T : Tab) (lim : Nat) (a : C) (b : C) (H : Heap) : Rs :=
  (C.len a).bind fun k1 =>
  (C.len b).bind fun k2 =>
  (if (!decide (((k1 : Nat) : Int) = ((k2 : Nat) : Int))) = true then
  some ((.c (.bool false)), H)
  else
  T.f14_1 a b 0 H)
def b17 (T : Tab) (lim : Nat) (g_0 : Int) (g_1 : C) (g_2 : C) (H : Heap) : Rs :=
  (T.f46 g_0 g_1 g_2 H).bind fun q1 =>
  (V.asC q1.1).bind fun c2 =>
  (C.asI .i64 c2).bind fun n3 =>
  (if (!decide (n3 = 0)) = true then
  some ((.tuple [(.c .nilSlice), (.c (.int .i64 n3))]), q1.2)
  else
  (T.f47 g_0 g_1 g_2 g_1 q1.2).bind fun q4 =>
  (V.asA q4.1).bind fun c5 =>
  (headC c5).bind fun c6 =>
  (C.asI .i64 c6).bind fun n7 =>
  (headC (c5.drop 1)).bind fun c8 =>
  (headC ((c5.drop 1).drop 1)).bind fun c9 =>
  (headC (((c5.drop 1).drop 1).drop 1)).bind fun c10 =>
  (headC ((((c5.drop 1).drop 1).drop 1).drop 1)).bind fun c11 =>
  (if ((((((c5.drop 1).drop 1).drop 1).drop 1).drop 1)).length = 0 then
  some ((.tuple [(.c c10), (.c (.int .i64 0))]), q4.2)
  else
  none))
def b19 (T : Tab) (lim : Nat) (g_0 : Int) (g_1 : C) (g_2 : C) (to : Int) (H : Heap) : Rs :=
  (T.f46 g_0 g_1 g_2 H).bind fun q1 =>
  (V.asC q1.1).bind fun c2 =>
  (C.asI .i64 c2).bind fun n3 =>
  (T.f44 to 0 (IntKind.wrap .i64 (g_0 - 1)) q1.2).bind fun q4 =>
  (V.asC q4.1).bind fun c5 =>
  (C.asB c5).bind fun b6 =>
  (T.f43 b6 3 q4.2).bind fun q7 =>
  (V.asC q7.1).bind fun c8 =>
  (C.asI .i64 c8).bind fun n9 =>
  let H10 := Heap.alloc q7.2 (.cells 1 [(.int .i64 n3), (.int .i64 n9)])
  (T.f41 (.slice q7.2.next 0 2) H10).bind fun q11 =>
  (V.asC q11.1).bind fun c12 =>
  (C.asI .i64 c12).bind fun n13 =>
  (if (!decide (n13 = 0)) = true then
  some ((.tuple [(.agg [(.int .i64 0), .nilSlice, (.bool false)]), (.c (.int .i64 n13))]), q11.2)
  else
  (T.f47 g_0 g_1 g_2 g_1 q11.2).bind fun q14 =>
  (V.asA q14.1).bind fun c15 =>
  (headC c15).bind fun c16 =>
  (C.asI .i64 c16).bind fun n17 =>
  (headC (c15.drop 1)).bind fun c18 =>
  (headC ((c15.drop 1).drop 1)).bind fun c19 =>
  (headC (((c15.drop 1).drop 1).drop 1)).bind fun c20 =>
  (headC ((((c15.drop 1).drop 1).drop 1).drop 1)).bind fun c21 =>
  (if ((((((c15.drop 1).drop 1).drop 1).drop 1).drop 1)).length = 0 then
  (C.elem 1 c20 to).bind fun q22 =>
  (Heap.ld q14.2 q22.1 q22.2).bind fun c23 =>
  (C.asI .i64 c23).bind fun n24 =>
  (if (decide (n24 = (-1))) = true then
  some ((.tuple [(.agg [(.int .i64 0), .nilSlice, (.bool false)]), (.c (.int .i64 25))]), q14.2)
  else
  (T.f48 n17 c18 c19 c20 c21 to q14.2).bind fun q25 =>
  (V.ext q25.1 0).bind fun v26 =>
  (V.asC v26).bind fun c27 =>
  (C.asI .i64 c27).bind fun n28 =>
  (V.ext q25.1 1).bind fun v29 =>
  (V.asC v29).bind fun c30 =>
  some ((.tuple [(.agg [(.int .i64 n28), c30, (.bool false)]), (.c (.int .i64 0))]), q25.2))
  else
  none))
def b25 (T : Tab) (lim : Nat) (g_0 : Int) (g_1 : C) (g_2 : C) (w : C) (x_0 : Int) (x_1 : Int) (H : Heap) : Rs :=
  (T.f46 g_0 g_1 g_2 H).bind fun q1 =>
  (V.asC q1.1).bind fun c2 =>
  (C.asI .i64 c2).bind fun n3 =>
  (T.f52 w q1.2).bind fun q4 =>
  (V.asC q4.1).bind fun c5 =>
  (C.asI .i64 c5).bind fun n6 =>
  (T.f42 x_0 q4.2).bind fun q7 =>
  (V.asC q7.1).bind fun c8 =>
  (C.asI .i64 c8).bind fun n9 =>
  (T.f44 x_1 0 300 q7.2).bind fun q10 =>
  (V.asC q10.1).bind fun c11 =>
  (C.asB c11).bind fun b12 =>
  (T.f43 b12 2 q10.2).bind fun q13 =>
  (V.asC q13.1).bind fun c14 =>
  (C.asI .i64 c14).bind fun n15 =>
  (C.len g_1).bind fun k16 =>
  (T.f43 (decide (0 < ((k16 : Nat) : Int))) 1 q13.2).bind fun q17 =>
  (V.asC q17.1).bind fun c18 =>
  (C.asI .i64 c18).bind fun n19 =>
  let H20 := Heap.alloc q17.2 (.cells 1 [(.int .i64 n3), (.int .i64 n6), (.int .i64 n9), (.int .i64 n15), (.int .i64 n19)])
  (T.f41 (.slice q17.2.next 0 5) H20).bind fun q21 =>
  (V.asC q21.1).bind fun c22 =>
  (C.asI .i64 c22).bind fun n23 =>
  (if (!decide (n23 = 0)) = true then
  some ((.tuple [(.agg [(.int .i64 0), .nilSlice, (.bool false)]), (.c (.int .i64 n23))]), q21.2)
  else
  (T.f53 g_0 g_1 g_2 q21.2).bind fun q24 =>
  (V.asC q24.1).bind fun c25 =>
  let H26 := Heap.alloc q24.2 (.cells 1 [(.int .i64 x_0)])
  (T.f45 (.ptr q24.2.next 0) H26).bind fun q27 =>
  (V.asC q27.1).bind fun c28 =>
  (C.asI .i64 c28).bind fun n29 =>
  (C.len g_1).bind fun k30 =>
  (if ((k30 : Nat) : Int) = 0 then
  none
  else
  (C.elem 1 g_1 (Int.tmod n29 ((k30 : Nat) : Int))).bind fun q31 =>
  (Heap.ld q27.2 q31.1 q31.2).bind fun c32 =>
  (C.asI .i64 c32).bind fun n33 =>
  T.f25_1 w g_0 g_1 g_2 x_0 x_1 0 .nilSlice false (.ptr q24.2.next 0) c25 n33 n33 .nilSlice false q27.2))
def b39 (T : Tab) (lim : Nat) (H : Heap) : Rs :=
  let H1 := Heap.alloc H (.cells 1 [(.int .i64 0)])
  let H2 := Heap.alloc H1 (.cells 3 [(.int .i64 0), (.int .i64 1), (.int .i64 0), (.int .i64 0), (.int .i64 2), (.int .i64 1), (.int .i64 1), (.int .i64 0), (.int .i64 0)])
  some ((.agg [(.int .i64 3), (.slice H.next 0 1), (.slice H1.next 0 3)]), H2)
def b40 (T : Tab) (lim : Nat) (H : Heap) : Rs :=
  T.f40_1 .nilSlice 0 H
def b11_1 (T : Tab) (lim : Nat) (n : C) (out : C) (x22 : Int) (x23 : Int) (H : Heap) : Rs :=
  (if (decide (x23 < x22)) = true then
  (T.f45 n H).bind fun q1 =>
  (V.asC q1.1).bind fun c2 =>
  (C.asI .i64 c2).bind fun n3 =>
  let H4 := Heap.alloc q1.2 (.cells 1 [(.int .i64 n3)])
  (Heap.cellsOf H4 1 (.slice q1.2.next 0 1)).bind fun xs5 =>
  (Heap.app lim H4 1 out xs5 1).bind fun q6 =>
  T.f11_1 n q6.1 x22 (IntKind.wrap .i64 (x23 + 1)) q6.2
  else
  some ((.tuple [(.c out), (.c (.int .i64 0))]), H))
def b41 (T : Tab) (lim : Nat) (l : C) (H : Heap) : Rs :=
  (C.len l).bind fun k1 =>
  T.f41_1 l ((k1 : Nat) : Int) 0 H
def b42 (T : Tab) (lim : Nat) (seed : Int) (H : Heap) : Rs :=
  (T.f44 seed 1 2147483646 H).bind fun q1 =>
  (V.asC q1.1).bind fun c2 =>
  (C.asB c2).bind fun b3 =>
  (T.f43 b3 3 q1.2).bind fun q4 =>
  (V.asC q4.1).bind fun c5 =>
  (C.asI .i64 c5).bind fun n6 =>
  some ((.c (.int .i64 n6)), q4.2)
def b43 (T : Tab) (lim : Nat) (holds : Bool) (e : Int) (H : Heap) : Rs :=
  (if holds = true then
  some ((.c (.int .i64 0)), H)
  else
  some ((.c (.int .i64 e)), H))
def b44 (T : Tab) (lim : Nat) (n : Int) (lo : Int) (hi : Int) (H : Heap) : Rs :=
  (if (decide (lo ≤ n)) = true then
  some (decide (n ≤ hi), H)
  else
  some (decide (lo ≤ n), H)).bind fun q1 =>
  some ((.c (.bool q1.1)), q1.2)
def b14_1 (T : Tab) (lim : Nat) (a : C) (b : C) (i : Int) (H : Heap) : Rs :=
  (C.len a).bind fun k1 =>
  (if (decide (i < ((k1 : Nat) : Int))) = true then
  (C.elem 1 a i).bind fun q2 =>
  (Heap.ld H q2.1 q2.2).bind fun c3 =>
  (C.asI .i64 c3).bind fun n4 =>
  (C.elem 1 b i).bind fun q5 =>
  (Heap.ld H q5.1 q5.2).bind fun c6 =>
  (C.asI .i64 c6).bind fun n7 =>
  (if (!decide (n4 = n7)) = true then
  some ((.c (.bool false)), H)
  else
  T.f14_1 a b (IntKind.wrap .i64 (i + 1)) H)
  else
  some ((.c (.bool true)), H))
def b46 (T : Tab) (lim : Nat) (g_0 : Int) (g_1 : C) (g_2 : C) (H : Heap) : Rs :=
  let H1 := Heap.alloc H (.cells 3 [(.int .i64 g_0), g_1, g_2])
  (Heap.ld H1 H.next 0).bind fun c2 =>
  (C.asI .i64 c2).bind fun n3 =>
  (T.f44 n3 0 400 H1).bind fun q4 =>
  (V.asC q4.1).bind fun c5 =>
  (C.asB c5).bind fun b6 =>
  (if b6 = true then
  (Heap.ld q4.2 H.next 2).bind fun c8 =>
  (C.len c8).bind fun k9 =>
  some (decide (((k9 : Nat) : Int) ≤ 2000), q4.2)
  else
  some (b6, q4.2)).bind fun q7 =>
  (Heap.ld q7.2 H.next 1).bind fun c10 =>
  (C.len c10).bind fun k11 =>
  T.f46_1 (.ptr H.next 0) (.func 62 [] [(.ptr H.next 0)]) (.func 63 [] []) q7.1 c10 ((k11 : Nat) : Int) 0 q7.2
def b47 (T : Tab) (lim : Nat) (g_0 : Int) (g_1 : C) (g_2 : C) (vfrom : C) (H : Heap) : Rs :=
  (T.f53 g_0 g_1 g_2 H).bind fun q1 =>
  (V.asC q1.1).bind fun c2 =>
  let H3 := Heap.alloc q1.2 (.cells 1 [(.int .i64 (-1))])
  (T.f66 (.slice q1.2.next 0 1) g_0 H3).bind fun q4 =>
  (V.asC q4.1).bind fun c5 =>
  let H6 := Heap.alloc q4.2 (.cells 1 [(.int .i64 (-1))])
  (T.f66 (.slice q4.2.next 0 1) g_0 H6).bind fun q7 =>
  (V.asC q7.1).bind fun c8 =>
  (T.f67 vfrom q7.2).bind fun q9 =>
  (V.asC q9.1).bind fun c10 =>
  (C.len vfrom).bind fun k11 =>
  T.f47_1 g_0 g_1 g_2 0 .nilSlice .nilSlice .nilSlice .nilSlice c2 g_0 g_1 g_2 c5 c8 c10 vfrom ((k11 : Nat) : Int) 0 q9.2
def b48 (T : Tab) (lim : Nat) (x_0 : Int) (x_1 : C) (x_2 : C) (x_3 : C) (x_4 : C) (to : Int) (H : Heap) : Rs :=
  T.f48_1 to x_0 x_1 x_2 x_3 x_4 .nilSlice H
def b25_1 (T : Tab) (lim : Nat) (w : C) (g_0 : Int) (g_1 : C) (g_2 : C) (x_0 : Int) (x_1 : Int) (x6_0 : Int) (x6_1 : C) (x6_2 : Bool) (n : C) (out : C) (vat : Int) (walk_0 : Int) (walk_1 : C) (walk_2 : Bool) (H : Heap) : Rs :=
  (C.elem 1 out vat).bind fun q1 =>
  (Heap.ld H q1.1 q1.2).bind fun c2 =>
  (C.len c2).bind fun k3 =>
  T.f25_2 w g_0 g_1 g_2 x_0 x_1 x6_0 x6_1 x6_2 n out vat walk_0 walk_1 walk_2 0 c2 ((k3 : Nat) : Int) 0 H
def b45 (T : Tab) (lim : Nat) (n : C) (H : Heap) : Rs :=
  (withP n fun i1 o2 =>
  (Heap.ld H i1 o2).bind fun c3 =>
  (C.asI .i64 c3).bind fun n4 =>
  (withP n fun i5 o6 =>
  (Heap.st lim H i5 o6 [(.int .i64 (Int.tmod (IntKind.wrap .i64 (n4 * 48271)) 2147483647))]).bind fun H7 =>
  (withP n fun i8 o9 =>
  (Heap.ld H7 i8 o9).bind fun c10 =>
  (C.asI .i64 c10).bind fun n11 =>
  some ((.c (.int .i64 n11)), H7))))
def b52 (T : Tab) (lim : Nat) (w : C) (H : Heap) : Rs :=
  (T.f70 w (.func 71 [] []) H).bind fun q1 =>
  (V.asC q1.1).bind fun c2 =>
  (C.asB c2).bind fun b3 =>
  (C.len w).bind fun k4 =>
  (T.f43 (decide (((k4 : Nat) : Int) = 12)) 6 q1.2).bind fun q5 =>
  (V.asC q5.1).bind fun c6 =>
  (C.asI .i64 c6).bind fun n7 =>
  (T.f43 (!b3) 3 q5.2).bind fun q8 =>
  (V.asC q8.1).bind fun c9 =>
  (C.asI .i64 c9).bind fun n10 =>
  let H11 := Heap.alloc q8.2 (.cells 1 [(.int .i64 n7), (.int .i64 n10)])
  (T.f41 (.slice q8.2.next 0 2) H11).bind fun q12 =>
  (V.asC q12.1).bind fun c13 =>
  (C.asI .i64 c13).bind fun n14 =>
  some ((.c (.int .i64 n14)), q12.2)
def b53 (T : Tab) (lim : Nat) (g_0 : Int) (g_1 : C) (g_2 : C) (H : Heap) : Rs :=
  (if 0 ≤ g_0 ∧ g_0 ≤ 2 ^ 36 then
  let H1 := Heap.alloc H (.cells 1 (List.replicate (Int.toNat g_0) [.nilSlice]).flatten)
  (C.len g_2).bind fun k2 =>
  T.f53_1 (.slice H.next 0 (Int.toNat g_0)) g_2 ((k2 : Nat) : Int) 0 H1
  else
  none)
def b40_1 (T : Tab) (lim : Nat) (w : C) (i : Int) (H : Heap) : Rs :=
  (if (decide (i < 12)) = true then
  let H1 := Heap.alloc H (.cells 1 [(.int .i64 1)])
  (Heap.cellsOf H1 1 (.slice H.next 0 1)).bind fun xs2 =>
  (Heap.app lim H1 1 w xs2 1).bind fun q3 =>
  T.f40_1 q3.1 (IntKind.wrap .i64 (i + 1)) q3.2
  else
  some ((.c w), H))
def b41_1 (T : Tab) (lim : Nat) (x5 : C) (x6 : Int) (x7 : Int) (H : Heap) : Rs :=
  (if (decide (x7 < x6)) = true then
  (C.elem 1 x5 x7).bind fun q1 =>
  (Heap.ld H q1.1 q1.2).bind fun c2 =>
  (C.asI .i64 c2).bind fun n3 =>
  (if (!decide (n3 = 0)) = true then
  some ((.c (.int .i64 n3)), H)
  else
  T.f41_1 x5 x6 (IntKind.wrap .i64 (x7 + 1)) H)
  else
  some ((.c (.int .i64 0)), H))
def b46_1 (T : Tab) (lim : Nat) (g : C) (state : C) (order : C) (right : Bool) (x21 : C) (x22 : Int) (x23 : Int) (H : Heap) : Rs :=
  (if (decide (x23 < x22)) = true then
  (C.elem 1 x21 x23).bind fun q1 =>
  (Heap.ld H q1.1 q1.2).bind fun c2 =>
  (C.asI .i64 c2).bind fun n3 =>
  (if right = true then
  (C.asF state).bind fun g5 =>
  (T.call g5.1 (g5.2.1.map .c ++ [(.c (.int .i64 n3))] ++ g5.2.2.map .c) H).bind fun q6 =>
  (V.asC q6.1).bind fun c7 =>
  (C.asB c7).bind fun b8 =>
  some (b8, q6.2)
  else
  some (right, H)).bind fun q4 =>
  (if q4.1 = true then
  (if (decide (x23 = 0)) = false then
  (V.asP (.c g)).bind fun a11 =>
  (Heap.ld q4.2 a11.1 (a11.2 + 1)).bind fun c12 =>
  (C.elem 1 c12 (IntKind.wrap .i64 (x23 - 1))).bind fun q13 =>
  (Heap.ld q4.2 q13.1 q13.2).bind fun c14 =>
  (C.asI .i64 c14).bind fun n15 =>
  some (decide (n15 < n3), q4.2)
  else
  some (decide (x23 = 0), q4.2)).bind fun q10 =>
  some (q10.1, q10.2)
  else
  some (q4.1, q4.2)).bind fun q9 =>
  T.f46_1 g state order q9.1 x21 x22 (IntKind.wrap .i64 (x23 + 1)) q9.2
  else
  (V.asP (.c g)).bind fun a16 =>
  (Heap.ld H a16.1 (a16.2 + 2)).bind fun c17 =>
  (C.len c17).bind fun k18 =>
  T.f46_2 g state order right c17 ((k18 : Nat) : Int) 0 H)
def b62 (T : Tab) (lim : Nat) (n : Int) (x1 : C) (H : Heap) : Rs :=
  (V.asP (.c x1)).bind fun a1 =>
  (Heap.ld H a1.1 a1.2).bind fun c2 =>
  (C.asI .i64 c2).bind fun n3 =>
  (T.f44 n 0 (IntKind.wrap .i64 (n3 - 1)) H).bind fun q4 =>
  (V.asC q4.1).bind fun c5 =>
  (C.asB c5).bind fun b6 =>
  some ((.c (.bool b6)), q4.2)
def b63 (T : Tab) (lim : Nat) (a_0 : Int) (a_1 : Int) (a_2 : Int) (b_0 : Int) (b_1 : Int) (b_2 : Int) (H : Heap) : Rs :=
  (T.f65 a_0 b_0 H).bind fun q1 =>
  (V.asC q1.1).bind fun c2 =>
  (C.asI .i64 c2).bind fun n3 =>
  (T.f65 a_1 b_1 q1.2).bind fun q4 =>
  (V.asC q4.1).bind fun c5 =>
  (C.asI .i64 c5).bind fun n6 =>
  (T.f65 a_2 b_2 q4.2).bind fun q7 =>
  (V.asC q7.1).bind fun c8 =>
  (C.asI .i64 c8).bind fun n9 =>
  let H10 := Heap.alloc q7.2 (.cells 1 [(.int .i64 n3), (.int .i64 n6), (.int .i64 n9)])
  (T.f64 (.slice q7.2.next 0 3) H10).bind fun q11 =>
  (V.asC q11.1).bind fun c12 =>
  (C.asI .i64 c12).bind fun n13 =>
  some ((.c (.int .i64 n13)), q11.2)
def b47_1 (T : Tab) (lim : Nat) (g_0 : Int) (g_1 : C) (g_2 : C) (x4_0 : Int) (x4_1 : C) (x4_2 : C) (x4_3 : C) (x4_4 : C) (out : C) (x_0 : Int) (x_1 : C) (x_2 : C) (x_3 : C) (x_4 : C) (vopen : C) (x28 : C) (x29 : Int) (x30 : Int) (H : Heap) : Rs :=
  (if (decide (x30 < x29)) = true then
  (C.elem 1 x28 x30).bind fun q1 =>
  (Heap.ld H q1.1 q1.2).bind fun c2 =>
  (C.asI .i64 c2).bind fun n3 =>
  (C.elem 1 x_3 n3).bind fun q4 =>
  (Heap.st lim H q4.1 q4.2 [(.int .i64 0)]).bind fun H5 =>
  T.f47_1 g_0 g_1 g_2 x4_0 x4_1 x4_2 x4_3 x4_4 out x_0 x_1 x_2 x_3 x_4 vopen x28 x29 (IntKind.wrap .i64 (x30 + 1)) H5
  else
  T.f47_2 g_0 g_1 g_2 x4_0 x4_1 x4_2 x4_3 x4_4 out x_0 x_1 x_2 x_3 x_4 vopen H)
def b66 (T : Tab) (lim : Nat) (x : C) (count : Int) (H : Heap) : Rs :=
  (if (decide (count < 0)) = true then
  none
  else
  T.f66_1 x count H)
def b67 (T : Tab) (lim : Nat) (s : C) (H : Heap) : Rs :=
  (isNil .slice s).bind fun b1 =>
  (if (b1 != false) = true then
  some ((.c .nilSlice), H)
  else
  let H2 := Heap.alloc H (.cells 1 [])
  (Heap.cellsOf H2 1 s).bind fun xs3 =>
  (C.len s).bind fun k4 =>
  (Heap.app lim H2 1 (.slice H.next 0 0) xs3 k4).bind fun q5 =>
  some ((.c q5.1), q5.2))
def b48_1 (T : Tab) (lim : Nat) (to : Int) (x_0 : Int) (x_1 : C) (x_2 : C) (x_3 : C) (x_4 : C) (out : C) (H : Heap) : Rs :=
  (C.elem 1 x_3 to).bind fun q1 =>
  (Heap.ld H q1.1 q1.2).bind fun c2 =>
  (C.asI .i64 c2).bind fun n3 =>
  (if (decide (0 < n3)) = true then
  (C.elem 1 x_4 to).bind fun q4 =>
  (Heap.ld H q4.1 q4.2).bind fun c5 =>
  (C.asI .i64 c5).bind fun n6 =>
  let H7 := Heap.alloc H (.cells 1 [(.int .i64 n6)])
  (Heap.cellsOf H7 1 (.slice H.next 0 1)).bind fun xs8 =>
  (Heap.app lim H7 1 out xs8 1).bind fun q9 =>
  (C.elem 1 x_4 to).bind fun q10 =>
  (Heap.ld q9.2 q10.1 q10.2).bind fun c11 =>
  (C.asI .i64 c11).bind fun n12 =>
  (C.elem 3 x_2 n12).bind fun q13 =>
  (Heap.ld q9.2 q13.1 q13.2).bind fun c14 =>
  (C.asI .i64 c14).bind fun n15 =>
  T.f48_1 n15 x_0 x_1 x_2 x_3 x_4 q9.1 q9.2
  else
  (T.f68 out H).bind fun q16 =>
  some ((.tuple [(.c (.int .i64 to)), (.c out)]), q16.2))
def b25_2 (T : Tab) (lim : Nat) (w : C) (g_0 : Int) (g_1 : C) (g_2 : C) (x_0 : Int) (x_1 : Int) (x6_0 : Int) (x6_1 : C) (x6_2 : Bool) (n : C) (out : C) (vat : Int) (walk_0 : Int) (walk_1 : C) (walk_2 : Bool) (sum : Int) (x62 : C) (x63 : Int) (x64 : Int) (H : Heap) : Rs :=
  (if (decide (x64 < x63)) = true then
  (C.elem 1 x62 x64).bind fun q1 =>
  (Heap.ld H q1.1 q1.2).bind fun c2 =>
  (C.asI .i64 c2).bind fun n3 =>
  (C.elem 3 g_2 n3).bind fun q4 =>
  (Heap.ld H q4.1 (q4.2 + 2)).bind fun c5 =>
  (C.asI .i64 c5).bind fun n6 =>
  (C.elem 1 w n6).bind fun q7 =>
  (Heap.ld H q7.1 q7.2).bind fun c8 =>
  (C.asI .i64 c8).bind fun n9 =>
  T.f25_2 w g_0 g_1 g_2 x_0 x_1 x6_0 x6_1 x6_2 n out vat walk_0 walk_1 walk_2 (IntKind.wrap .i64 (sum + n9)) x62 x63 (IntKind.wrap .i64 (x64 + 1)) H
  else
  (if (decide (sum = 0)) = false then
  (C.len walk_1).bind fun k11 =>
  some (decide (((k11 : Nat) : Int) = x_1), H)
  else
  some (decide (sum = 0), H)).bind fun q10 =>
  (if q10.1 = true then
  some ((.tuple [(.agg [(.int .i64 walk_0), walk_1, (.bool (decide (sum = 0)))]), (.c (.int .i64 0))]), q10.2)
  else
  (T.f45 n q10.2).bind fun q12 =>
  (V.asC q12.1).bind fun c13 =>
  (C.asI .i64 c13).bind fun n14 =>
  (if sum = 0 then
  none
  else
  (C.elem 1 out vat).bind fun q15 =>
  (Heap.ld q12.2 q15.1 q15.2).bind fun c16 =>
  (C.len c16).bind fun k17 =>
  T.f25_3 w g_0 g_1 g_2 x_0 x_1 x6_0 x6_1 x6_2 n out vat walk_0 walk_1 (decide (sum = 0)) (Int.tmod n14 sum) c16 ((k17 : Nat) : Int) 0 q12.2)))
def b70 (T : Tab) (lim : Nat) (s : C) (f : C) (H : Heap) : Rs :=
  (T.f73 s f H).bind fun q1 =>
  (V.asC q1.1).bind fun c2 =>
  (C.asI .i64 c2).bind fun n3 =>
  some ((.c (.bool (decide (0 ≤ n3)))), q1.2)
def b71 (T : Tab) (lim : Nat) (n : Int) (H : Heap) : Rs :=
  (T.f44 n 0 100 H).bind fun q1 =>
  (V.asC q1.1).bind fun c2 =>
  (C.asB c2).bind fun b3 =>
  some ((.c (.bool (!b3))), q1.2)
def b53_1 (T : Tab) (lim : Nat) (out : C) (x10 : C) (x11 : Int) (x12 : Int) (H : Heap) : Rs :=
  (if (decide (x12 < x11)) = true then
  (C.elem 3 x10 x12).bind fun q1 =>
  (Heap.ld H q1.1 q1.2).bind fun c2 =>
  (C.asI .i64 c2).bind fun n3 =>
  (Heap.ld H q1.1 (q1.2 + 1)).bind fun c4 =>
  (C.asI .i64 c4).bind fun n5 =>
  (Heap.ld H q1.1 ((q1.2 + 1) + 1)).bind fun c6 =>
  (C.asI .i64 c6).bind fun n7 =>
  (C.elem 1 out n3).bind fun q8 =>
  (Heap.ld H q8.1 q8.2).bind fun c9 =>
  let H10 := Heap.alloc H (.cells 1 [(.int .i64 x12)])
  (Heap.cellsOf H10 1 (.slice H.next 0 1)).bind fun xs11 =>
  (Heap.app lim H10 1 c9 xs11 1).bind fun q12 =>
  (C.elem 1 out n3).bind fun q13 =>
  (Heap.st lim q12.2 q13.1 q13.2 [q12.1]).bind fun H14 =>
  T.f53_1 out x10 x11 (IntKind.wrap .i64 (x12 + 1)) H14
  else
  some ((.c out), H))
def b46_2 (T : Tab) (lim : Nat) (g : C) (state : C) (order : C) (right : Bool) (x50 : C) (x51 : Int) (x52 : Int) (H : Heap) : Rs :=
  (if (decide (x52 < x51)) = true then
  (C.elem 3 x50 x52).bind fun q1 =>
  (Heap.ld H q1.1 q1.2).bind fun c2 =>
  (C.asI .i64 c2).bind fun n3 =>
  (Heap.ld H q1.1 (q1.2 + 1)).bind fun c4 =>
  (C.asI .i64 c4).bind fun n5 =>
  (Heap.ld H q1.1 ((q1.2 + 1) + 1)).bind fun c6 =>
  (C.asI .i64 c6).bind fun n7 =>
  (if right = true then
  (C.asF state).bind fun g9 =>
  (T.call g9.1 (g9.2.1.map .c ++ [(.c (.int .i64 n3))] ++ g9.2.2.map .c) H).bind fun q10 =>
  (V.asC q10.1).bind fun c11 =>
  (C.asB c11).bind fun b12 =>
  some (b12, q10.2)
  else
  some (right, H)).bind fun q8 =>
  (if q8.1 = true then
  (C.asF state).bind fun g14 =>
  (T.call g14.1 (g14.2.1.map .c ++ [(.c (.int .i64 n5))] ++ g14.2.2.map .c) q8.2).bind fun q15 =>
  (V.asC q15.1).bind fun c16 =>
  (C.asB c16).bind fun b17 =>
  some (b17, q15.2)
  else
  some (q8.1, q8.2)).bind fun q13 =>
  (if q13.1 = true then
  (T.f44 n7 0 11 q13.2).bind fun q19 =>
  (V.asC q19.1).bind fun c20 =>
  (C.asB c20).bind fun b21 =>
  some (b21, q19.2)
  else
  some (q13.1, q13.2)).bind fun q18 =>
  (if q18.1 = true then
  (if (decide (x52 = 0)) = false then
  (V.asP (.c g)).bind fun a24 =>
  (Heap.ld q18.2 a24.1 (a24.2 + 2)).bind fun c25 =>
  (C.elem 3 c25 (IntKind.wrap .i64 (x52 - 1))).bind fun q26 =>
  (Heap.ld q18.2 q26.1 q26.2).bind fun c27 =>
  (C.asI .i64 c27).bind fun n28 =>
  (Heap.ld q18.2 q26.1 (q26.2 + 1)).bind fun c29 =>
  (C.asI .i64 c29).bind fun n30 =>
  (Heap.ld q18.2 q26.1 ((q26.2 + 1) + 1)).bind fun c31 =>
  (C.asI .i64 c31).bind fun n32 =>
  (C.asF order).bind fun g33 =>
  (T.call g33.1 (g33.2.1.map .c ++ [(.agg [(.int .i64 n28), (.int .i64 n30), (.int .i64 n32)]), (.agg [(.int .i64 n3), (.int .i64 n5), (.int .i64 n7)])] ++ g33.2.2.map .c) q18.2).bind fun q34 =>
  (V.asC q34.1).bind fun c35 =>
  (C.asI .i64 c35).bind fun n36 =>
  some (decide (n36 < 0), q34.2)
  else
  some (decide (x52 = 0), q18.2)).bind fun q23 =>
  some (q23.1, q23.2)
  else
  some (q18.1, q18.2)).bind fun q22 =>
  T.f46_2 g state order q22.1 x50 x51 (IntKind.wrap .i64 (x52 + 1)) q22.2
  else
  (T.f43 right 5 H).bind fun q37 =>
  (V.asC q37.1).bind fun c38 =>
  (C.asI .i64 c38).bind fun n39 =>
  some ((.c (.int .i64 n39)), q37.2))
def b64 (T : Tab) (lim : Nat) (vals : C) (H : Heap) : Rs :=
  (C.len vals).bind fun k1 =>
  T.f64_1 0 vals ((k1 : Nat) : Int) 0 H
def b65 (T : Tab) (lim : Nat) (x : Int) (y : Int) (H : Heap) : Rs :=
  (T.f74 x H).bind fun q1 =>
  (V.asC q1.1).bind fun c2 =>
  (C.asB c2).bind fun b3 =>
  (T.f74 y q1.2).bind fun q4 =>
  (V.asC q4.1).bind fun c5 =>
  (C.asB c5).bind fun b6 =>
  (if b3 = true then
  (if b6 = true then
  some ((.c (.int .i64 0)), q4.2)
  else
  some ((.c (.int .i64 (-1))), q4.2))
  else
  (if b6 = true then
  some ((.c (.int .i64 1)), q4.2)
  else
  (if (decide (x < y)) = true then
  some ((.c (.int .i64 (-1))), q4.2)
  else
  (if (decide (y < x)) = true then
  some ((.c (.int .i64 1)), q4.2)
  else
  some ((.c (.int .i64 0)), q4.2)))))
def b47_2 (T : Tab) (lim : Nat) (g_0 : Int) (g_1 : C) (g_2 : C) (x4_0 : Int) (x4_1 : C) (x4_2 : C) (x4_3 : C) (x4_4 : C) (out : C) (x_0 : Int) (x_1 : C) (x_2 : C) (x_3 : C) (x_4 : C) (vopen : C) (H : Heap) : Rs :=
  (C.len vopen).bind fun k1 =>
  (if (decide (0 < ((k1 : Nat) : Int))) = true then
  (C.elem 1 vopen 0).bind fun q2 =>
  (Heap.ld H q2.1 q2.2).bind fun c3 =>
  (C.asI .i64 c3).bind fun n4 =>
  (Heap.sub lim H 1 vopen 1 none).bind fun c5 =>
  (C.elem 1 out n4).bind fun q6 =>
  (Heap.ld H q6.1 q6.2).bind fun c7 =>
  (C.len c7).bind fun k8 =>
  T.f47_3 g_0 g_1 g_2 x4_0 x4_1 x4_2 x4_3 x4_4 out x_0 x_1 x_2 x_3 x_4 c5 n4 c7 ((k8 : Nat) : Int) 0 H
  else
  some ((.agg [(.int .i64 x_0), x_1, x_2, x_3, x_4]), H))
def b66_1 (T : Tab) (lim : Nat) (x : C) (count : Int) (H : Heap) : Rs :=
  (C.len x).bind fun k1 =>
  (T.f75 (IntKind.wrap .u64 ((k1 : Nat) : Int)) (IntKind.wrap .u64 count) H).bind fun q2 =>
  (V.ext q2.1 0).bind fun v3 =>
  (V.asC v3).bind fun c4 =>
  (C.asI .u64 c4).bind fun n5 =>
  (V.ext q2.1 1).bind fun v6 =>
  (V.asC v6).bind fun c7 =>
  (C.asI .u64 c7).bind fun n8 =>
  (if (decide (0 < n5)) = false then
  some (decide (9223372036854775807 < n8), q2.2)
  else
  some (decide (0 < n5), q2.2)).bind fun q9 =>
  (if q9.1 = true then
  none
  else
  T.f66_2 x n8 q9.2)
def b68 (T : Tab) (lim : Nat) (s : C) (H : Heap) : Rs :=
  (C.len s).bind fun k1 =>
  T.f68_1 s 0 (IntKind.wrap .i64 (((k1 : Nat) : Int) - 1)) H
def b25_3 (T : Tab) (lim : Nat) (w : C) (g_0 : Int) (g_1 : C) (g_2 : C) (x_0 : Int) (x_1 : Int) (x6_0 : Int) (x6_1 : C) (x6_2 : Bool) (n : C) (out : C) (vat : Int) (walk_0 : Int) (walk_1 : C) (walk_2 : Bool) (left : Int) (x101 : C) (x102 : Int) (x103 : Int) (H : Heap) : Rs :=
  (if (decide (x103 < x102)) = true then
  (C.elem 1 x101 x103).bind fun q1 =>
  (Heap.ld H q1.1 q1.2).bind fun c2 =>
  (C.asI .i64 c2).bind fun n3 =>
  (C.elem 3 g_2 n3).bind fun q4 =>
  (Heap.ld H q4.1 (q4.2 + 2)).bind fun c5 =>
  (C.asI .i64 c5).bind fun n6 =>
  (C.elem 1 w n6).bind fun q7 =>
  (Heap.ld H q7.1 q7.2).bind fun c8 =>
  (C.asI .i64 c8).bind fun n9 =>
  (if (decide ((IntKind.wrap .i64 (left - n9)) < 0)) = true then
  let H10 := Heap.alloc H (.cells 1 [(.int .i64 n3)])
  (Heap.cellsOf H10 1 (.slice H.next 0 1)).bind fun xs11 =>
  (Heap.app lim H10 1 walk_1 xs11 1).bind fun q12 =>
  (C.elem 3 g_2 n3).bind fun q13 =>
  (Heap.ld q12.2 q13.1 (q13.2 + 1)).bind fun c14 =>
  (C.asI .i64 c14).bind fun n15 =>
  T.f25_1 w g_0 g_1 g_2 x_0 x_1 x6_0 x6_1 x6_2 n out n15 walk_0 q12.1 walk_2 q12.2
  else
  T.f25_3 w g_0 g_1 g_2 x_0 x_1 x6_0 x6_1 x6_2 n out vat walk_0 walk_1 walk_2 (IntKind.wrap .i64 (left - n9)) x101 x102 (IntKind.wrap .i64 (x103 + 1)) H)
  else
  T.f25_1 w g_0 g_1 g_2 x_0 x_1 x6_0 x6_1 x6_2 n out vat walk_0 walk_1 walk_2 H)
def b73 (T : Tab) (lim : Nat) (s : C) (f : C) (H : Heap) : Rs :=
  (C.len s).bind fun k1 =>
  T.f73_1 s f ((k1 : Nat) : Int) 0 H
def b64_1 (T : Tab) (lim : Nat) (zero : Int) (x6 : C) (x7 : Int) (x8 : Int) (H : Heap) : Rs :=
  (if (decide (x8 < x7)) = true then
  (C.elem 1 x6 x8).bind fun q1 =>
  (Heap.ld H q1.1 q1.2).bind fun c2 =>
  (C.asI .i64 c2).bind fun n3 =>
  (if (!decide (n3 = zero)) = true then
  some ((.c (.int .i64 n3)), H)
  else
  T.f64_1 zero x6 x7 (IntKind.wrap .i64 (x8 + 1)) H)
  else
  some ((.c (.int .i64 zero)), H))
def b74 (T : Tab) (lim : Nat) (x : Int) (H : Heap) : Rs :=
  some ((.c (.bool (!decide (x = x)))), H)
def b47_3 (T : Tab) (lim : Nat) (g_0 : Int) (g_1 : C) (g_2 : C) (x4_0 : Int) (x4_1 : C) (x4_2 : C) (x4_3 : C) (x4_4 : C) (out : C) (x_0 : Int) (x_1 : C) (x_2 : C) (x_3 : C) (x_4 : C) (vopen : C) (s : Int) (x50 : C) (x51 : Int) (x52 : Int) (H : Heap) : Rs :=
  (if (decide (x52 < x51)) = true then
  (C.elem 1 x50 x52).bind fun q1 =>
  (Heap.ld H q1.1 q1.2).bind fun c2 =>
  (C.asI .i64 c2).bind fun n3 =>
  (C.elem 3 g_2 n3).bind fun q4 =>
  (Heap.ld H q4.1 (q4.2 + 1)).bind fun c5 =>
  (C.asI .i64 c5).bind fun n6 =>
  (C.elem 1 x_3 n6).bind fun q7 =>
  (Heap.ld H q7.1 q7.2).bind fun c8 =>
  (C.asI .i64 c8).bind fun n9 =>
  (if (decide (n9 = (-1))) = true then
  (C.elem 1 x_3 s).bind fun q10 =>
  (Heap.ld H q10.1 q10.2).bind fun c11 =>
  (C.asI .i64 c11).bind fun n12 =>
  (C.elem 1 x_3 n6).bind fun q13 =>
  (Heap.st lim H q13.1 q13.2 [(.int .i64 (IntKind.wrap .i64 (n12 + 1)))]).bind fun H14 =>
  (C.elem 1 x_4 n6).bind fun q15 =>
  (Heap.st lim H14 q15.1 q15.2 [(.int .i64 n3)]).bind fun H16 =>
  let H17 := Heap.alloc H16 (.cells 1 [(.int .i64 n6)])
  (Heap.cellsOf H17 1 (.slice H16.next 0 1)).bind fun xs18 =>
  (Heap.app lim H17 1 vopen xs18 1).bind fun q19 =>
  T.f47_4 g_0 g_1 g_2 x4_0 x4_1 x4_2 x4_3 x4_4 out x_0 x_1 x_2 x_3 x_4 q19.1 s x50 x51 x52 q19.2
  else
  T.f47_4 g_0 g_1 g_2 x4_0 x4_1 x4_2 x4_3 x4_4 out x_0 x_1 x_2 x_3 x_4 vopen s x50 x51 x52 H)
  else
  T.f47_2 g_0 g_1 g_2 x4_0 x4_1 x4_2 x4_3 x4_4 out x_0 x_1 x_2 x_3 x_4 vopen H)
def b66_2 (T : Tab) (lim : Nat) (x : C) (lo : Int) (H : Heap) : Rs :=
  (if 0 ≤ (IntKind.wrap .i64 lo) ∧ (IntKind.wrap .i64 lo) ≤ 2 ^ 36 then
  let H1 := Heap.alloc H (.cells 1 (List.replicate (Int.toNat (IntKind.wrap .i64 lo)) [(.int .i64 0)]).flatten)
  (Heap.cellsOf H1 1 x).bind fun xs2 =>
  (C.len x).bind fun k3 =>
  (Heap.copy lim H1 1 (.slice H.next 0 (Int.toNat (IntKind.wrap .i64 lo))) xs2 k3).bind fun q4 =>
  T.f66_3 (.slice H.next 0 (Int.toNat (IntKind.wrap .i64 lo))) ((q4.1 : Nat) : Int) q4.2
  else
  none)
def b75 (T : Tab) (lim : Nat) (x : Int) (y : Int) (H : Heap) : Rs :=
  (T.f78 x y H).bind fun q1 =>
  (V.ext q1.1 0).bind fun v2 =>
  (V.asC v2).bind fun c3 =>
  (C.asI .u64 c3).bind fun n4 =>
  (V.ext q1.1 1).bind fun v5 =>
  (V.asC v5).bind fun c6 =>
  (C.asI .u64 c6).bind fun n7 =>
  some ((.tuple [(.c (.int .u64 n4)), (.c (.int .u64 n7))]), q1.2)
def b68_1 (T : Tab) (lim : Nat) (s : C) (i : Int) (j : Int) (H : Heap) : Rs :=
  (if (decide (i < j)) = true then
  (C.elem 1 s j).bind fun q1 =>
  (Heap.ld H q1.1 q1.2).bind fun c2 =>
  (C.asI .i64 c2).bind fun n3 =>
  (C.elem 1 s i).bind fun q4 =>
  (Heap.ld H q4.1 q4.2).bind fun c5 =>
  (C.asI .i64 c5).bind fun n6 =>
  (C.elem 1 s i).bind fun q7 =>
  (Heap.st lim H q7.1 q7.2 [(.int .i64 n3)]).bind fun H8 =>
  (C.elem 1 s j).bind fun q9 =>
  (Heap.st lim H8 q9.1 q9.2 [(.int .i64 n6)]).bind fun H10 =>
  T.f68_1 s (IntKind.wrap .i64 (i + 1)) (IntKind.wrap .i64 (j - 1)) H10
  else
  some ((.tuple []), H))
def b73_1 (T : Tab) (lim : Nat) (s : C) (f : C) (x7 : Int) (x8 : Int) (H : Heap) : Rs :=
  (if (decide (x8 < x7)) = true then
  (C.elem 1 s x8).bind fun q1 =>
  (Heap.ld H q1.1 q1.2).bind fun c2 =>
  (C.asI .i64 c2).bind fun n3 =>
  (C.asF f).bind fun g4 =>
  (T.call g4.1 (g4.2.1.map .c ++ [(.c (.int .i64 n3))] ++ g4.2.2.map .c) H).bind fun q5 =>
  (V.asC q5.1).bind fun c6 =>
  (C.asB c6).bind fun b7 =>
  (if b7 = true then
  some ((.c (.int .i64 x8)), q5.2)
  else
  T.f73_1 s f x7 (IntKind.wrap .i64 (x8 + 1)) q5.2)
  else
  some ((.c (.int .i64 (-1))), H))
def b47_4 (T : Tab) (lim : Nat) (g_0 : Int) (g_1 : C) (g_2 : C) (x4_0 : Int) (x4_1 : C) (x4_2 : C) (x4_3 : C) (x4_4 : C) (out : C) (x_0 : Int) (x_1 : C) (x_2 : C) (x_3 : C) (x_4 : C) (vopen : C) (s : Int) (x50 : C) (x51 : Int) (x52 : Int) (H : Heap) : Rs :=
  T.f47_3 g_0 g_1 g_2 x4_0 x4_1 x4_2 x4_3 x4_4 out x_0 x_1 x_2 x_3 x_4 vopen s x50 x51 (IntKind.wrap .i64 (x52 + 1)) H
def b66_3 (T : Tab) (lim : Nat) (newslice : C) (n : Int) (H : Heap) : Rs :=
  (C.len newslice).bind fun k1 =>
  (if (decide (n < ((k1 : Nat) : Int))) = true then
  (Heap.sub lim H 1 newslice n none).bind fun c2 =>
  (Heap.sub lim H 1 newslice 0 (some n)).bind fun c3 =>
  (Heap.cellsOf H 1 c3).bind fun xs4 =>
  (C.len c3).bind fun k5 =>
  (Heap.copy lim H 1 c2 xs4 k5).bind fun q6 =>
  T.f66_3 newslice (IntKind.wrap .i64 (n + ((q6.1 : Nat) : Int))) q6.2
  else
  some ((.c newslice), H))
def b78 (T : Tab) (lim : Nat) (x : Int) (y : Int) (H : Heap) : Rs :=
  some ((.tuple [(.c (.int .u64 (IntKind.wrap .u64 ((IntKind.wrap .u64 ((IntKind.wrap .u64 ((shI .shr .u64 x 32) * (shI .shr .u64 y 32))) + (shI .shr .u64 (IntKind.wrap .u64 ((IntKind.wrap .u64 ((shI .shr .u64 x 32) * (bitI .and .u64 y 4294967295))) + (shI .shr .u64 (IntKind.wrap .u64 ((bitI .and .u64 x 4294967295) * (bitI .and .u64 y 4294967295))) 32))) 32))) + (shI .shr .u64 (IntKind.wrap .u64 ((bitI .and .u64 (IntKind.wrap .u64 ((IntKind.wrap .u64 ((shI .shr .u64 x 32) * (bitI .and .u64 y 4294967295))) + (shI .shr .u64 (IntKind.wrap .u64 ((bitI .and .u64 x 4294967295) * (bitI .and .u64 y 4294967295))) 32))) 4294967295) + (IntKind.wrap .u64 ((bitI .and .u64 x 4294967295) * (shI .shr .u64 y 32))))) 32))))), (.c (.int .u64 (IntKind.wrap .u64 (x * y))))]), H)
def bcall (T : Tab) (f : FuncId) (vs : List V) (H : Heap) : Rs :=
  if f = 62 then (match vs with
    | [(.c (.int .i64 n)), (.c x1)] => T.f62 n x1 H
    | _ => none) else
  if f = 63 then (match vs with
    | [(.agg [(.int .i64 a_0), (.int .i64 a_1), (.int .i64 a_2)]), (.agg [(.int .i64 b_0), (.int .i64 b_1), (.int .i64 b_2)])] => T.f63 a_0 a_1 a_2 b_0 b_1 b_2 H
    | _ => none) else
  if f = 71 then (match vs with
    | [(.c (.int .i64 n))] => T.f71 n H
    | _ => none) else
  none
def Tab.none : Tab := ⟨fun _ => Option.none, fun _ _ _ => Option.none, fun _ _ _ => Option.none, fun _ _ _ _ => Option.none, fun _ _ _ _ _ => Option.none, fun _ _ _ _ _ _ _ => Option.none, fun _ => Option.none, fun _ => Option.none, fun _ _ _ _ _ => Option.none, fun _ _ => Option.none, fun _ _ => Option.none, fun _ _ _ => Option.none, fun _ _ _ _ => Option.none, fun _ _ _ _ => Option.none, fun _ _ _ _ => Option.none, fun _ _ _ _ _ => Option.none, fun _ _ _ _ _ _ _ => Option.none, fun _ _ _ _ _ _ _ _ _ _ _ _ _ _ _ _ => Option.none, fun _ _ => Option.none, fun _ _ => Option.none, fun _ _ _ _ => Option.none, fun _ _ _ => Option.none, fun _ _ _ _ => Option.none, fun _ _ _ _ _ _ _ _ => Option.none, fun _ _ _ => Option.none, fun _ _ _ _ _ _ _ => Option.none, fun _ _ _ _ _ _ _ _ _ _ _ _ _ _ _ _ _ _ _ => Option.none, fun _ _ _ => Option.none, fun _ _ => Option.none, fun _ _ _ _ _ _ _ _ => Option.none, fun _ _ _ _ _ _ _ _ _ _ _ _ _ _ _ _ _ _ _ _ => Option.none, fun _ _ _ => Option.none, fun _ _ => Option.none, fun _ _ _ _ _ => Option.none, fun _ _ _ _ _ _ _ _ => Option.none, fun _ _ => Option.none, fun _ _ _ => Option.none, fun _ _ _ _ _ _ _ _ _ _ _ _ _ _ _ _ => Option.none, fun _ _ _ => Option.none, fun _ _ => Option.none, fun _ _ _ _ _ _ _ _ _ _ _ _ _ _ _ _ _ _ _ _ => Option.none, fun _ _ _ => Option.none, fun _ _ _ _ _ => Option.none, fun _ _ => Option.none, fun _ _ _ _ _ _ _ _ _ _ _ _ _ _ _ _ _ _ _ _ => Option.none, fun _ _ _ => Option.none, fun _ _ _ => Option.none, fun _ _ _ _ => Option.none, fun _ _ _ _ _ => Option.none, fun _ _ _ _ _ _ _ _ _ _ _ _ _ _ _ _ _ _ _ _ => Option.none, fun _ _ _ => Option.none, fun _ _ _ => Option.none, fun _ _ _ => Option.none⟩
def Tab.step (T : Tab) (lim : Nat) : Tab := ⟨b10 T lim, b11 T lim, b14 T lim, b17 T lim, b19 T lim, b25 T lim, b39 T lim, b40 T lim, b11_1 T lim, b41 T lim, b42 T lim, b43 T lim, b44 T lim, b14_1 T lim, b46 T lim, b47 T lim, b48 T lim, b25_1 T lim, b45 T lim, b52 T lim, b53 T lim, b40_1 T lim, b41_1 T lim, b46_1 T lim, b62 T lim, b63 T lim, b47_1 T lim, b66 T lim, b67 T lim, b48_1 T lim, b25_2 T lim, b70 T lim, b71 T lim, b53_1 T lim, b46_2 T lim, b64 T lim, b65 T lim, b47_2 T lim, b66_1 T lim, b68 T lim, b25_3 T lim, b73 T lim, b64_1 T lim, b74 T lim, b47_3 T lim, b66_2 T lim, b75 T lim, b68_1 T lim, b73_1 T lim, b47_4 T lim, b66_3 T lim, b78 T lim, bcall T⟩
def tabN (lim : Nat) : Nat → Tab
  | 0 => Tab.none
  | k + 1 => (tabN lim k).step lim
structure Tab.Le (T : Tab) (M : Mach) : Prop where
  f10 : ∀ (H : Heap), Vm.Le (T.f10 H) (R.f10 M H)
  f11 : ∀ (seed : Int) (count : Int) (H : Heap), Vm.Le (T.f11 seed count H) (R.f11 M seed count H)
  f14 : ∀ (a : C) (b : C) (H : Heap), Vm.Le (T.f14 a b H) (R.f14 M a b H)
  f17 : ∀ (g_0 : Int) (g_1 : C) (g_2 : C) (H : Heap), Vm.Le (T.f17 g_0 g_1 g_2 H) (R.f17 M g_0 g_1 g_2 H)
  f19 : ∀ (g_0 : Int) (g_1 : C) (g_2 : C) (to : Int) (H : Heap), Vm.Le (T.f19 g_0 g_1 g_2 to H) (R.f19 M g_0 g_1 g_2 to H)
  f25 : ∀ (g_0 : Int) (g_1 : C) (g_2 : C) (w : C) (x_0 : Int) (x_1 : Int) (H : Heap), Vm.Le (T.f25 g_0 g_1 g_2 w x_0 x_1 H) (R.f25 M g_0 g_1 g_2 w x_0 x_1 H)
  f39 : ∀ (H : Heap), Vm.Le (T.f39 H) (R.f39 M H)
  f40 : ∀ (H : Heap), Vm.Le (T.f40 H) (R.f40 M H)
  f11_1 : ∀ (n : C) (out : C) (x22 : Int) (x23 : Int) (H : Heap), Vm.Le (T.f11_1 n out x22 x23 H) (R.f11_1 M n out x22 x23 H)
  f41 : ∀ (l : C) (H : Heap), Vm.Le (T.f41 l H) (R.f41 M l H)
  f42 : ∀ (seed : Int) (H : Heap), Vm.Le (T.f42 seed H) (R.f42 M seed H)
  f43 : ∀ (holds : Bool) (e : Int) (H : Heap), Vm.Le (T.f43 holds e H) (R.f43 M holds e H)
  f44 : ∀ (n : Int) (lo : Int) (hi : Int) (H : Heap), Vm.Le (T.f44 n lo hi H) (R.f44 M n lo hi H)
  f14_1 : ∀ (a : C) (b : C) (i : Int) (H : Heap), Vm.Le (T.f14_1 a b i H) (R.f14_1 M a b i H)
  f46 : ∀ (g_0 : Int) (g_1 : C) (g_2 : C) (H : Heap), Vm.Le (T.f46 g_0 g_1 g_2 H) (R.f46 M g_0 g_1 g_2 H)
  f47 : ∀ (g_0 : Int) (g_1 : C) (g_2 : C) (vfrom : C) (H : Heap), Vm.Le (T.f47 g_0 g_1 g_2 vfrom H) (R.f47 M g_0 g_1 g_2 vfrom H)
  f48 : ∀ (x_0 : Int) (x_1 : C) (x_2 : C) (x_3 : C) (x_4 : C) (to : Int) (H : Heap), Vm.Le (T.f48 x_0 x_1 x_2 x_3 x_4 to H) (R.f48 M x_0 x_1 x_2 x_3 x_4 to H)
  f25_1 : ∀ (w : C) (g_0 : Int) (g_1 : C) (g_2 : C) (x_0 : Int) (x_1 : Int) (x6_0 : Int) (x6_1 : C) (x6_2 : Bool) (n : C) (out : C) (vat : Int) (walk_0 : Int) (walk_1 : C) (walk_2 : Bool) (H : Heap), Vm.Le (T.f25_1 w g_0 g_1 g_2 x_0 x_1 x6_0 x6_1 x6_2 n out vat walk_0 walk_1 walk_2 H) (R.f25_1 M w g_0 g_1 g_2 x_0 x_1 x6_0 x6_1 x6_2 n out vat walk_0 walk_1 walk_2 H)
  f45 : ∀ (n : C) (H : Heap), Vm.Le (T.f45 n H) (R.f45 M n H)
  f52 : ∀ (w : C) (H : Heap), Vm.Le (T.f52 w H) (R.f52 M w H)
  f53 : ∀ (g_0 : Int) (g_1 : C) (g_2 : C) (H : Heap), Vm.Le (T.f53 g_0 g_1 g_2 H) (R.f53 M g_0 g_1 g_2 H)
  f40_1 : ∀ (w : C) (i : Int) (H : Heap), Vm.Le (T.f40_1 w i H) (R.f40_1 M w i H)
  f41_1 : ∀ (x5 : C) (x6 : Int) (x7 : Int) (H : Heap), Vm.Le (T.f41_1 x5 x6 x7 H) (R.f41_1 M x5 x6 x7 H)
  f46_1 : ∀ (g : C) (state : C) (order : C) (right : Bool) (x21 : C) (x22 : Int) (x23 : Int) (H : Heap), Vm.Le (T.f46_1 g state order right x21 x22 x23 H) (R.f46_1 M g state order right x21 x22 x23 H)
  f62 : ∀ (n : Int) (x1 : C) (H : Heap), Vm.Le (T.f62 n x1 H) (R.f62 M n x1 H)
  f63 : ∀ (a_0 : Int) (a_1 : Int) (a_2 : Int) (b_0 : Int) (b_1 : Int) (b_2 : Int) (H : Heap), Vm.Le (T.f63 a_0 a_1 a_2 b_0 b_1 b_2 H) (R.f63 M a_0 a_1 a_2 b_0 b_1 b_2 H)
  f47_1 : ∀ (g_0 : Int) (g_1 : C) (g_2 : C) (x4_0 : Int) (x4_1 : C) (x4_2 : C) (x4_3 : C) (x4_4 : C) (out : C) (x_0 : Int) (x_1 : C) (x_2 : C) (x_3 : C) (x_4 : C) (vopen : C) (x28 : C) (x29 : Int) (x30 : Int) (H : Heap), Vm.Le (T.f47_1 g_0 g_1 g_2 x4_0 x4_1 x4_2 x4_3 x4_4 out x_0 x_1 x_2 x_3 x_4 vopen x28 x29 x30 H) (R.f47_1 M g_0 g_1 g_2 x4_0 x4_1 x4_2 x4_3 x4_4 out x_0 x_1 x_2 x_3 x_4 vopen x28 x29 x30 H)
  f66 : ∀ (x : C) (count : Int) (H : Heap), Vm.Le (T.f66 x count H) (R.f66 M x count H)
  f67 : ∀ (s : C) (H : Heap), Vm.Le (T.f67 s H) (R.f67 M s H)
  f48_1 : ∀ (to : Int) (x_0 : Int) (x_1 : C) (x_2 : C) (x_3 : C) (x_4 : C) (out : C) (H : Heap), Vm.Le (T.f48_1 to x_0 x_1 x_2 x_3 x_4 out H) (R.f48_1 M to x_0 x_1 x_2 x_3 x_4 out H)
  f25_2 : ∀ (w : C) (g_0 : Int) (g_1 : C) (g_2 : C) (x_0 : Int) (x_1 : Int) (x6_0 : Int) (x6_1 : C) (x6_2 : Bool) (n : C) (out : C) (vat : Int) (walk_0 : Int) (walk_1 : C) (walk_2 : Bool) (sum : Int) (x62 : C) (x63 : Int) (x64 : Int) (H : Heap), Vm.Le (T.f25_2 w g_0 g_1 g_2 x_0 x_1 x6_0 x6_1 x6_2 n out vat walk_0 walk_1 walk_2 sum x62 x63 x64 H) (R.f25_2 M w g_0 g_1 g_2 x_0 x_1 x6_0 x6_1 x6_2 n out vat walk_0 walk_1 walk_2 sum x62 x63 x64 H)
  f70 : ∀ (s : C) (f : C) (H : Heap), Vm.Le (T.f70 s f H) (R.f70 M s f H)
  f71 : ∀ (n : Int) (H : Heap), Vm.Le (T.f71 n H) (R.f71 M n H)
  f53_1 : ∀ (out : C) (x10 : C) (x11 : Int) (x12 : Int) (H : Heap), Vm.Le (T.f53_1 out x10 x11 x12 H) (R.f53_1 M out x10 x11 x12 H)
  f46_2 : ∀ (g : C) (state : C) (order : C) (right : Bool) (x50 : C) (x51 : Int) (x52 : Int) (H : Heap), Vm.Le (T.f46_2 g state order right x50 x51 x52 H) (R.f46_2 M g state order right x50 x51 x52 H)
  f64 : ∀ (vals : C) (H : Heap), Vm.Le (T.f64 vals H) (R.f64 M vals H)
  f65 : ∀ (x : Int) (y : Int) (H : Heap), Vm.Le (T.f65 x y H) (R.f65 M x y H)
  f47_2 : ∀ (g_0 : Int) (g_1 : C) (g_2 : C) (x4_0 : Int) (x4_1 : C) (x4_2 : C) (x4_3 : C) (x4_4 : C) (out : C) (x_0 : Int) (x_1 : C) (x_2 : C) (x_3 : C) (x_4 : C) (vopen : C) (H : Heap), Vm.Le (T.f47_2 g_0 g_1 g_2 x4_0 x4_1 x4_2 x4_3 x4_4 out x_0 x_1 x_2 x_3 x_4 vopen H) (R.f47_2 M g_0 g_1 g_2 x4_0 x4_1 x4_2 x4_3 x4_4 out x_0 x_1 x_2 x_3 x_4 vopen H)
  f66_1 : ∀ (x : C) (count : Int) (H : Heap), Vm.Le (T.f66_1 x count H) (R.f66_1 M x count H)
  f68 : ∀ (s : C) (H : Heap), Vm.Le (T.f68 s H) (R.f68 M s H)
  f25_3 : ∀ (w : C) (g_0 : Int) (g_1 : C) (g_2 : C) (x_0 : Int) (x_1 : Int) (x6_0 : Int) (x6_1 : C) (x6_2 : Bool) (n : C) (out : C) (vat : Int) (walk_0 : Int) (walk_1 : C) (walk_2 : Bool) (left : Int) (x101 : C) (x102 : Int) (x103 : Int) (H : Heap), Vm.Le (T.f25_3 w g_0 g_1 g_2 x_0 x_1 x6_0 x6_1 x6_2 n out vat walk_0 walk_1 walk_2 left x101 x102 x103 H) (R.f25_3 M w g_0 g_1 g_2 x_0 x_1 x6_0 x6_1 x6_2 n out vat walk_0 walk_1 walk_2 left x101 x102 x103 H)
  f73 : ∀ (s : C) (f : C) (H : Heap), Vm.Le (T.f73 s f H) (R.f73 M s f H)
  f64_1 : ∀ (zero : Int) (x6 : C) (x7 : Int) (x8 : Int) (H : Heap), Vm.Le (T.f64_1 zero x6 x7 x8 H) (R.f64_1 M zero x6 x7 x8 H)
  f74 : ∀ (x : Int) (H : Heap), Vm.Le (T.f74 x H) (R.f74 M x H)
  f47_3 : ∀ (g_0 : Int) (g_1 : C) (g_2 : C) (x4_0 : Int) (x4_1 : C) (x4_2 : C) (x4_3 : C) (x4_4 : C) (out : C) (x_0 : Int) (x_1 : C) (x_2 : C) (x_3 : C) (x_4 : C) (vopen : C) (s : Int) (x50 : C) (x51 : Int) (x52 : Int) (H : Heap), Vm.Le (T.f47_3 g_0 g_1 g_2 x4_0 x4_1 x4_2 x4_3 x4_4 out x_0 x_1 x_2 x_3 x_4 vopen s x50 x51 x52 H) (R.f47_3 M g_0 g_1 g_2 x4_0 x4_1 x4_2 x4_3 x4_4 out x_0 x_1 x_2 x_3 x_4 vopen s x50 x51 x52 H)
  f66_2 : ∀ (x : C) (lo : Int) (H : Heap), Vm.Le (T.f66_2 x lo H) (R.f66_2 M x lo H)
  f75 : ∀ (x : Int) (y : Int) (H : Heap), Vm.Le (T.f75 x y H) (R.f75 M x y H)
  f68_1 : ∀ (s : C) (i : Int) (j : Int) (H : Heap), Vm.Le (T.f68_1 s i j H) (R.f68_1 M s i j H)
  f73_1 : ∀ (s : C) (f : C) (x7 : Int) (x8 : Int) (H : Heap), Vm.Le (T.f73_1 s f x7 x8 H) (R.f73_1 M s f x7 x8 H)
  f47_4 : ∀ (g_0 : Int) (g_1 : C) (g_2 : C) (x4_0 : Int) (x4_1 : C) (x4_2 : C) (x4_3 : C) (x4_4 : C) (out : C) (x_0 : Int) (x_1 : C) (x_2 : C) (x_3 : C) (x_4 : C) (vopen : C) (s : Int) (x50 : C) (x51 : Int) (x52 : Int) (H : Heap), Vm.Le (T.f47_4 g_0 g_1 g_2 x4_0 x4_1 x4_2 x4_3 x4_4 out x_0 x_1 x_2 x_3 x_4 vopen s x50 x51 x52 H) (R.f47_4 M g_0 g_1 g_2 x4_0 x4_1 x4_2 x4_3 x4_4 out x_0 x_1 x_2 x_3 x_4 vopen s x50 x51 x52 H)
  f66_3 : ∀ (newslice : C) (n : Int) (H : Heap), Vm.Le (T.f66_3 newslice n H) (R.f66_3 M newslice n H)
  f78 : ∀ (x : Int) (y : Int) (H : Heap), Vm.Le (T.f78 x y H) (R.f78 M x y H)
  call : ∀ f vs H, Vm.Le (T.call f vs H) (mcall M f vs H)
theorem le10 {T : Tab} {M : Mach} (h : T.Le M) (ho : M.out = false) (H : Heap) : Vm.Le (b10 T M.lim H) (f10 M H) := by
  rw [f10_eq M ho]
  exact
    Le.bind (h.f11 _ _ _) fun q1 =>
    Le.bind (Le.refl _) fun v2 =>
    Le.bind (Le.refl _) fun c3 =>
    Le.bind (Le.refl _) fun v4 =>
    Le.bind (Le.refl _) fun c5 =>
    Le.bind (Le.refl _) fun n6 =>
    Le.bind (h.f39 _) fun q7 =>
    Le.bind (Le.refl _) fun c8 =>
    Le.bind (Le.refl _) fun c9 =>
    Le.bind (Le.refl _) fun n10 =>
    Le.bind (Le.refl _) fun c11 =>
    Le.bind (Le.refl _) fun c12 =>
    Le.ite (Le.bind (h.f40 _) fun q13 =>
    Le.bind (Le.refl _) fun c14 =>
    Le.bind (h.f25 _ _ _ _ _ _ _) fun q15 =>
    Le.bind (Le.refl _) fun v16 =>
    Le.bind (Le.refl _) fun c17 =>
    Le.bind (Le.refl _) fun c18 =>
    Le.bind (Le.refl _) fun n19 =>
    Le.bind (Le.refl _) fun c20 =>
    Le.bind (Le.refl _) fun c21 =>
    Le.bind (Le.refl _) fun b22 =>
    Le.ite (Le.bind (Le.refl _) fun v23 =>
    Le.bind (Le.refl _) fun c24 =>
    Le.bind (Le.refl _) fun n25 =>
    Le.bind (h.f40 _) fun q26 =>
    Le.bind (Le.refl _) fun c27 =>
    Le.bind (Le.refl _) fun q28 =>
    Le.bind (Le.refl _) fun H29 =>
    Le.bind (h.f39 _) fun q30 =>
    Le.bind (Le.refl _) fun c31 =>
    Le.bind (Le.refl _) fun c32 =>
    Le.bind (Le.refl _) fun n33 =>
    Le.bind (Le.refl _) fun c34 =>
    Le.bind (Le.refl _) fun c35 =>
    Le.ite (Le.bind (h.f25 _ _ _ _ _ _ _) fun q36 =>
    Le.bind (Le.refl _) fun v37 =>
    Le.bind (Le.refl _) fun c38 =>
    Le.bind (Le.refl _) fun c39 =>
    Le.bind (Le.refl _) fun n40 =>
    Le.bind (Le.refl _) fun c41 =>
    Le.bind (Le.refl _) fun c42 =>
    Le.bind (Le.refl _) fun b43 =>
    Le.ite (Le.bind (Le.refl _) fun v44 =>
    Le.bind (Le.refl _) fun c45 =>
    Le.bind (Le.refl _) fun n46 =>
    Le.bind (h.f39 _) fun q47 =>
    Le.bind (Le.refl _) fun c48 =>
    Le.bind (Le.refl _) fun c49 =>
    Le.bind (Le.refl _) fun n50 =>
    Le.bind (Le.refl _) fun c51 =>
    Le.bind (Le.refl _) fun c52 =>
    Le.ite (Le.bind (h.f17 _ _ _ _) fun q53 =>
    Le.bind (Le.refl _) fun v54 =>
    Le.bind (Le.refl _) fun c55 =>
    Le.bind (Le.refl _) fun v56 =>
    Le.bind (Le.refl _) fun c57 =>
    Le.bind (Le.refl _) fun n58 =>
    Le.bind (h.f39 _) fun q59 =>
    Le.bind (Le.refl _) fun c60 =>
    Le.bind (Le.refl _) fun c61 =>
    Le.bind (Le.refl _) fun n62 =>
    Le.bind (Le.refl _) fun c63 =>
    Le.bind (Le.refl _) fun c64 =>
    Le.ite (Le.bind (h.f19 _ _ _ _ _) fun q65 =>
    Le.bind (Le.refl _) fun v66 =>
    Le.bind (Le.refl _) fun c67 =>
    Le.bind (Le.refl _) fun c68 =>
    Le.bind (Le.refl _) fun n69 =>
    Le.bind (Le.refl _) fun c70 =>
    Le.bind (Le.refl _) fun c71 =>
    Le.bind (Le.refl _) fun b72 =>
    Le.ite (Le.bind (Le.refl _) fun v73 =>
    Le.bind (Le.refl _) fun c74 =>
    Le.bind (Le.refl _) fun n75 =>
    Le.bind (Le.ite (let H77 := Heap.alloc q65.2 (.cells 1 [(.int .i64 48271), (.int .i64 182605794)]); Le.bind (h.f14 _ _ _) fun q78 =>
    Le.bind (Le.refl _) fun c79 =>
    Le.bind (Le.refl _) fun b80 =>
    Le.refl _) (Le.refl _)) fun q76 =>
    Le.bind (Le.ite (Le.refl _) (Le.refl _)) fun q81 =>
    Le.bind (Le.ite (let H83 := Heap.alloc q81.2 (.cells 1 [(.int .i64 0), (.int .i64 2)]); Le.bind (h.f14 _ _ _) fun q84 =>
    Le.bind (Le.refl _) fun c85 =>
    Le.bind (Le.refl _) fun b86 =>
    Le.refl _) (Le.refl _)) fun q82 =>
    Le.bind (Le.ite (Le.refl _) (Le.refl _)) fun q87 =>
    Le.bind (Le.ite (Le.refl _) (Le.refl _)) fun q88 =>
    Le.bind (Le.ite (let H90 := Heap.alloc q88.2 (.cells 1 [(.int .i64 1)]); Le.bind (h.f14 _ _ _) fun q91 =>
    Le.bind (Le.refl _) fun c92 =>
    Le.bind (Le.refl _) fun b93 =>
    Le.refl _) (Le.refl _)) fun q89 =>
    Le.bind (Le.ite (Le.refl _) (Le.refl _)) fun q94 =>
    Le.bind (Le.ite (Le.refl _) (Le.refl _)) fun q95 =>
    Le.bind (Le.ite (let H97 := Heap.alloc q95.2 (.cells 1 [(.int .i64 0), (.int .i64 1), (.int .i64 1)]); Le.bind (h.f14 _ _ _) fun q98 =>
    Le.bind (Le.refl _) fun c99 =>
    Le.bind (Le.refl _) fun b100 =>
    Le.refl _) (Le.refl _)) fun q96 =>
    Le.bind (Le.ite (Le.refl _) (Le.refl _)) fun q101 =>
    Le.bind (Le.ite (let H103 := Heap.alloc q101.2 (.cells 1 [(.int .i64 1)]); Le.bind (h.f14 _ _ _) fun q104 =>
    Le.bind (Le.refl _) fun c105 =>
    Le.bind (Le.refl _) fun b106 =>
    Le.refl _) (Le.refl _)) fun q102 =>
    Le.refl _) (Le.refl _)) (Le.refl _)) (Le.refl _)) (Le.refl _)) (Le.refl _)) (Le.refl _)) (Le.refl _)
theorem le11 {T : Tab} {M : Mach} (h : T.Le M) (seed : Int) (count : Int) (H : Heap) : Vm.Le (b11 T M.lim seed count H) (f11 M seed count H) := by
  rw [f11_eq]
  exact
    Le.bind (h.f42 _ _) fun q1 =>
    Le.bind (Le.refl _) fun c2 =>
    Le.bind (Le.refl _) fun n3 =>
    Le.bind (h.f44 _ _ _ _) fun q4 =>
    Le.bind (Le.refl _) fun c5 =>
    Le.bind (Le.refl _) fun b6 =>
    Le.bind (h.f43 _ _ _) fun q7 =>
    Le.bind (Le.refl _) fun c8 =>
    Le.bind (Le.refl _) fun n9 =>
    let H10 := Heap.alloc q7.2 (.cells 1 [(.int .i64 n3), (.int .i64 n9)]); Le.bind (h.f41 _ _) fun q11 =>
    Le.bind (Le.refl _) fun c12 =>
    Le.bind (Le.refl _) fun n13 =>
    Le.ite (Le.refl _) (let H14 := Heap.alloc q11.2 (.cells 1 [(.int .i64 seed)]); h.f11_1 _ _ _ _ _)
theorem le14 {T : Tab} {M : Mach} (h : T.Le M) (a : C) (b : C) (H : Heap) : Vm.Le (b14 T M.lim a b H) (f14 M a b H) := by
  rw [f14_eq]
  exact
    Le.bind (Le.refl _) fun k1 =>
    Le.bind (Le.refl _) fun k2 =>
    Le.ite (Le.refl _) (h.f14_1 _ _ _ _)
theorem le17 {T : Tab} {M : Mach} (h : T.Le M) (g_0 : Int) (g_1 : C) (g_2 : C) (H : Heap) : Vm.Le (b17 T M.lim g_0 g_1 g_2 H) (f17 M g_0 g_1 g_2 H) := by
  rw [f17_eq]
  exact
    Le.bind (h.f46 _ _ _ _) fun q1 =>
    Le.bind (Le.refl _) fun c2 =>
    Le.bind (Le.refl _) fun n3 =>
    Le.ite (Le.refl _) (Le.bind (h.f47 _ _ _ _ _) fun q4 =>
    Le.bind (Le.refl _) fun c5 =>
    Le.bind (Le.refl _) fun c6 =>
    Le.bind (Le.refl _) fun n7 =>
    Le.bind (Le.refl _) fun c8 =>
    Le.bind (Le.refl _) fun c9 =>
    Le.bind (Le.refl _) fun c10 =>
    Le.bind (Le.refl _) fun c11 =>
    Le.ite (Le.refl _) (Le.refl _))
theorem le19 {T : Tab} {M : Mach} (h : T.Le M) (g_0 : Int) (g_1 : C) (g_2 : C) (to : Int) (H : Heap) : Vm.Le (b19 T M.lim g_0 g_1 g_2 to H) (f19 M g_0 g_1 g_2 to H) := by
  rw [f19_eq]
  exact
    Le.bind (h.f46 _ _ _ _) fun q1 =>
    Le.bind (Le.refl _) fun c2 =>
    Le.bind (Le.refl _) fun n3 =>
    Le.bind (h.f44 _ _ _ _) fun q4 =>
    Le.bind (Le.refl _) fun c5 =>
    Le.bind (Le.refl _) fun b6 =>
    Le.bind (h.f43 _ _ _) fun q7 =>
    Le.bind (Le.refl _) fun c8 =>
    Le.bind (Le.refl _) fun n9 =>
    let H10 := Heap.alloc q7.2 (.cells 1 [(.int .i64 n3), (.int .i64 n9)]); Le.bind (h.f41 _ _) fun q11 =>
    Le.bind (Le.refl _) fun c12 =>
    Le.bind (Le.refl _) fun n13 =>
    Le.ite (Le.refl _) (Le.bind (h.f47 _ _ _ _ _) fun q14 =>
    Le.bind (Le.refl _) fun c15 =>
    Le.bind (Le.refl _) fun c16 =>
    Le.bind (Le.refl _) fun n17 =>
    Le.bind (Le.refl _) fun c18 =>
    Le.bind (Le.refl _) fun c19 =>
    Le.bind (Le.refl _) fun c20 =>
    Le.bind (Le.refl _) fun c21 =>
    Le.ite (Le.bind (Le.refl _) fun q22 =>
    Le.bind (Le.refl _) fun c23 =>
    Le.bind (Le.refl _) fun n24 =>
    Le.ite (Le.refl _) (Le.bind (h.f48 _ _ _ _ _ _ _) fun q25 =>
    Le.bind (Le.refl _) fun v26 =>
    Le.bind (Le.refl _) fun c27 =>
    Le.bind (Le.refl _) fun n28 =>
    Le.bind (Le.refl _) fun v29 =>
    Le.bind (Le.refl _) fun c30 =>
    Le.refl _)) (Le.refl _))
theorem le25 {T : Tab} {M : Mach} (h : T.Le M) (g_0 : Int) (g_1 : C) (g_2 : C) (w : C) (x_0 : Int) (x_1 : Int) (H : Heap) : Vm.Le (b25 T M.lim g_0 g_1 g_2 w x_0 x_1 H) (f25 M g_0 g_1 g_2 w x_0 x_1 H) := by
  rw [f25_eq]
  exact
    Le.bind (h.f46 _ _ _ _) fun q1 =>
    Le.bind (Le.refl _) fun c2 =>
    Le.bind (Le.refl _) fun n3 =>
    Le.bind (h.f52 _ _) fun q4 =>
    Le.bind (Le.refl _) fun c5 =>
    Le.bind (Le.refl _) fun n6 =>
    Le.bind (h.f42 _ _) fun q7 =>
    Le.bind (Le.refl _) fun c8 =>
    Le.bind (Le.refl _) fun n9 =>
    Le.bind (h.f44 _ _ _ _) fun q10 =>
    Le.bind (Le.refl _) fun c11 =>
    Le.bind (Le.refl _) fun b12 =>
    Le.bind (h.f43 _ _ _) fun q13 =>
    Le.bind (Le.refl _) fun c14 =>
    Le.bind (Le.refl _) fun n15 =>
    Le.bind (Le.refl _) fun k16 =>
    Le.bind (h.f43 _ _ _) fun q17 =>
    Le.bind (Le.refl _) fun c18 =>
    Le.bind (Le.refl _) fun n19 =>
    let H20 := Heap.alloc q17.2 (.cells 1 [(.int .i64 n3), (.int .i64 n6), (.int .i64 n9), (.int .i64 n15), (.int .i64 n19)]); Le.bind (h.f41 _ _) fun q21 =>
    Le.bind (Le.refl _) fun c22 =>
    Le.bind (Le.refl _) fun n23 =>
    Le.ite (Le.refl _) (Le.bind (h.f53 _ _ _ _) fun q24 =>
    Le.bind (Le.refl _) fun c25 =>
    let H26 := Heap.alloc q24.2 (.cells 1 [(.int .i64 x_0)]); Le.bind (h.f45 _ _) fun q27 =>
    Le.bind (Le.refl _) fun c28 =>
    Le.bind (Le.refl _) fun n29 =>
    Le.bind (Le.refl _) fun k30 =>
    Le.ite (Le.refl _) (Le.bind (Le.refl _) fun q31 =>
    Le.bind (Le.refl _) fun c32 =>
    Le.bind (Le.refl _) fun n33 =>
    h.f25_1 _ _ _ _ _ _ _ _ _ _ _ _ _ _ _ _))
theorem le39 {T : Tab} {M : Mach} (h : T.Le M) (H : Heap) : Vm.Le (b39 T M.lim H) (f39 M H) := by
  rw [f39_eq]
  exact
    let H1 := Heap.alloc H (.cells 1 [(.int .i64 0)]); let H2 := Heap.alloc H1 (.cells 3 [(.int .i64 0), (.int .i64 1), (.int .i64 0), (.int .i64 0), (.int .i64 2), (.int .i64 1), (.int .i64 1), (.int .i64 0), (.int .i64 0)]); Le.refl _
theorem le40 {T : Tab} {M : Mach} (h : T.Le M) (H : Heap) : Vm.Le (b40 T M.lim H) (f40 M H) := by
  rw [f40_eq]
  exact
    h.f40_1 _ _ _
theorem le11_1 {T : Tab} {M : Mach} (h : T.Le M) (n : C) (out : C) (x22 : Int) (x23 : Int) (H : Heap) : Vm.Le (b11_1 T M.lim n out x22 x23 H) (f11_1 M n out x22 x23 H) := by
  rw [f11_1_eq]
  exact
    Le.ite (Le.bind (h.f45 _ _) fun q1 =>
    Le.bind (Le.refl _) fun c2 =>
    Le.bind (Le.refl _) fun n3 =>
    let H4 := Heap.alloc q1.2 (.cells 1 [(.int .i64 n3)]); Le.bind (Le.refl _) fun xs5 =>
    Le.bind (Le.refl _) fun q6 =>
    h.f11_1 _ _ _ _ _) (Le.refl _)
theorem le41 {T : Tab} {M : Mach} (h : T.Le M) (l : C) (H : Heap) : Vm.Le (b41 T M.lim l H) (f41 M l H) := by
  rw [f41_eq]
  exact
    Le.bind (Le.refl _) fun k1 =>
    h.f41_1 _ _ _ _
theorem le42 {T : Tab} {M : Mach} (h : T.Le M) (seed : Int) (H : Heap) : Vm.Le (b42 T M.lim seed H) (f42 M seed H) := by
  rw [f42_eq]
  exact
    Le.bind (h.f44 _ _ _ _) fun q1 =>
    Le.bind (Le.refl _) fun c2 =>
    Le.bind (Le.refl _) fun b3 =>
    Le.bind (h.f43 _ _ _) fun q4 =>
    Le.bind (Le.refl _) fun c5 =>
    Le.bind (Le.refl _) fun n6 =>
    Le.refl _
theorem le43 {T : Tab} {M : Mach} (h : T.Le M) (holds : Bool) (e : Int) (H : Heap) : Vm.Le (b43 T M.lim holds e H) (f43 M holds e H) := by
  rw [f43_eq]
  exact
    Le.ite (Le.refl _) (Le.refl _)
theorem le44 {T : Tab} {M : Mach} (h : T.Le M) (n : Int) (lo : Int) (hi : Int) (H : Heap) : Vm.Le (b44 T M.lim n lo hi H) (f44 M n lo hi H) := by
  rw [f44_eq]
  exact
    Le.bind (Le.ite (Le.refl _) (Le.refl _)) fun q1 =>
    Le.refl _
theorem le14_1 {T : Tab} {M : Mach} (h : T.Le M) (a : C) (b : C) (i : Int) (H : Heap) : Vm.Le (b14_1 T M.lim a b i H) (f14_1 M a b i H) := by
  rw [f14_1_eq]
  exact
    Le.bind (Le.refl _) fun k1 =>
    Le.ite (Le.bind (Le.refl _) fun q2 =>
    Le.bind (Le.refl _) fun c3 =>
    Le.bind (Le.refl _) fun n4 =>
    Le.bind (Le.refl _) fun q5 =>
    Le.bind (Le.refl _) fun c6 =>
    Le.bind (Le.refl _) fun n7 =>
    Le.ite (Le.refl _) (h.f14_1 _ _ _ _)) (Le.refl _)
theorem le46 {T : Tab} {M : Mach} (h : T.Le M) (g_0 : Int) (g_1 : C) (g_2 : C) (H : Heap) : Vm.Le (b46 T M.lim g_0 g_1 g_2 H) (f46 M g_0 g_1 g_2 H) := by
  rw [f46_eq]
  exact
    let H1 := Heap.alloc H (.cells 3 [(.int .i64 g_0), g_1, g_2]); Le.bind (Le.refl _) fun c2 =>
    Le.bind (Le.refl _) fun n3 =>
    Le.bind (h.f44 _ _ _ _) fun q4 =>
    Le.bind (Le.refl _) fun c5 =>
    Le.bind (Le.refl _) fun b6 =>
    Le.bind (Le.ite (Le.bind (Le.refl _) fun c8 =>
    Le.bind (Le.refl _) fun k9 =>
    Le.refl _) (Le.refl _)) fun q7 =>
    Le.bind (Le.refl _) fun c10 =>
    Le.bind (Le.refl _) fun k11 =>
    h.f46_1 _ _ _ _ _ _ _ _
theorem le47 {T : Tab} {M : Mach} (h : T.Le M) (g_0 : Int) (g_1 : C) (g_2 : C) (vfrom : C) (H : Heap) : Vm.Le (b47 T M.lim g_0 g_1 g_2 vfrom H) (f47 M g_0 g_1 g_2 vfrom H) := by
  rw [f47_eq]
  exact
    Le.bind (h.f53 _ _ _ _) fun q1 =>
    Le.bind (Le.refl _) fun c2 =>
    let H3 := Heap.alloc q1.2 (.cells 1 [(.int .i64 (-1))]); Le.bind (h.f66 _ _ _) fun q4 =>
    Le.bind (Le.refl _) fun c5 =>
    let H6 := Heap.alloc q4.2 (.cells 1 [(.int .i64 (-1))]); Le.bind (h.f66 _ _ _) fun q7 =>
    Le.bind (Le.refl _) fun c8 =>
    Le.bind (h.f67 _ _) fun q9 =>
    Le.bind (Le.refl _) fun c10 =>
    Le.bind (Le.refl _) fun k11 =>
    h.f47_1 _ _ _ _ _ _ _ _ _ _ _ _ _ _ _ _ _ _ _
theorem le48 {T : Tab} {M : Mach} (h : T.Le M) (x_0 : Int) (x_1 : C) (x_2 : C) (x_3 : C) (x_4 : C) (to : Int) (H : Heap) : Vm.Le (b48 T M.lim x_0 x_1 x_2 x_3 x_4 to H) (f48 M x_0 x_1 x_2 x_3 x_4 to H) := by
  rw [f48_eq]
  exact
    h.f48_1 _ _ _ _ _ _ _ _
theorem le25_1 {T : Tab} {M : Mach} (h : T.Le M) (w : C) (g_0 : Int) (g_1 : C) (g_2 : C) (x_0 : Int) (x_1 : Int) (x6_0 : Int) (x6_1 : C) (x6_2 : Bool) (n : C) (out : C) (vat : Int) (walk_0 : Int) (walk_1 : C) (walk_2 : Bool) (H : Heap) : Vm.Le (b25_1 T M.lim w g_0 g_1 g_2 x_0 x_1 x6_0 x6_1 x6_2 n out vat walk_0 walk_1 walk_2 H) (f25_1 M w g_0 g_1 g_2 x_0 x_1 x6_0 x6_1 x6_2 n out vat walk_0 walk_1 walk_2 H) := by
  rw [f25_1_eq]
  exact
    Le.bind (Le.refl _) fun q1 =>
    Le.bind (Le.refl _) fun c2 =>
    Le.bind (Le.refl _) fun k3 =>
    h.f25_2 _ _ _ _ _ _ _ _ _ _ _ _ _ _ _ _ _ _ _ _
theorem le45 {T : Tab} {M : Mach} (h : T.Le M) (n : C) (H : Heap) : Vm.Le (b45 T M.lim n H) (f45 M n H) := by
  rw [f45_eq]
  exact
    Le.withP fun i1 o2 =>
    Le.bind (Le.refl _) fun c3 =>
    Le.bind (Le.refl _) fun n4 =>
    Le.withP fun i5 o6 =>
    Le.bind (Le.refl _) fun H7 =>
    Le.withP fun i8 o9 =>
    Le.bind (Le.refl _) fun c10 =>
    Le.bind (Le.refl _) fun n11 =>
    Le.refl _
theorem le52 {T : Tab} {M : Mach} (h : T.Le M) (w : C) (H : Heap) : Vm.Le (b52 T M.lim w H) (f52 M w H) := by
  rw [f52_eq]
  exact
    Le.bind (h.f70 _ _ _) fun q1 =>
    Le.bind (Le.refl _) fun c2 =>
    Le.bind (Le.refl _) fun b3 =>
    Le.bind (Le.refl _) fun k4 =>
    Le.bind (h.f43 _ _ _) fun q5 =>
    Le.bind (Le.refl _) fun c6 =>
    Le.bind (Le.refl _) fun n7 =>
    Le.bind (h.f43 _ _ _) fun q8 =>
    Le.bind (Le.refl _) fun c9 =>
    Le.bind (Le.refl _) fun n10 =>
    let H11 := Heap.alloc q8.2 (.cells 1 [(.int .i64 n7), (.int .i64 n10)]); Le.bind (h.f41 _ _) fun q12 =>
    Le.bind (Le.refl _) fun c13 =>
    Le.bind (Le.refl _) fun n14 =>
    Le.refl _
theorem le53 {T : Tab} {M : Mach} (h : T.Le M) (g_0 : Int) (g_1 : C) (g_2 : C) (H : Heap) : Vm.Le (b53 T M.lim g_0 g_1 g_2 H) (f53 M g_0 g_1 g_2 H) := by
  rw [f53_eq]
  exact
    Le.ite (let H1 := Heap.alloc H (.cells 1 (List.replicate (Int.toNat g_0) [.nilSlice]).flatten); Le.bind (Le.refl _) fun k2 =>
    h.f53_1 _ _ _ _ _) (Le.refl _)
theorem le40_1 {T : Tab} {M : Mach} (h : T.Le M) (w : C) (i : Int) (H : Heap) : Vm.Le (b40_1 T M.lim w i H) (f40_1 M w i H) := by
  rw [f40_1_eq]
  exact
    Le.ite (let H1 := Heap.alloc H (.cells 1 [(.int .i64 1)]); Le.bind (Le.refl _) fun xs2 =>
    Le.bind (Le.refl _) fun q3 =>
    h.f40_1 _ _ _) (Le.refl _)
theorem le41_1 {T : Tab} {M : Mach} (h : T.Le M) (x5 : C) (x6 : Int) (x7 : Int) (H : Heap) : Vm.Le (b41_1 T M.lim x5 x6 x7 H) (f41_1 M x5 x6 x7 H) := by
  rw [f41_1_eq]
  exact
    Le.ite (Le.bind (Le.refl _) fun q1 =>
    Le.bind (Le.refl _) fun c2 =>
    Le.bind (Le.refl _) fun n3 =>
    Le.ite (Le.refl _) (h.f41_1 _ _ _ _)) (Le.refl _)
theorem le46_1 {T : Tab} {M : Mach} (h : T.Le M) (g : C) (state : C) (order : C) (right : Bool) (x21 : C) (x22 : Int) (x23 : Int) (H : Heap) : Vm.Le (b46_1 T M.lim g state order right x21 x22 x23 H) (f46_1 M g state order right x21 x22 x23 H) := by
  rw [f46_1_eq]
  exact
    Le.ite (Le.bind (Le.refl _) fun q1 =>
    Le.bind (Le.refl _) fun c2 =>
    Le.bind (Le.refl _) fun n3 =>
    Le.bind (Le.ite (Le.bind (Le.refl _) fun g5 =>
    Le.bind (h.call _ _ _) fun q6 =>
    Le.bind (Le.refl _) fun c7 =>
    Le.bind (Le.refl _) fun b8 =>
    Le.refl _) (Le.refl _)) fun q4 =>
    Le.bind (Le.ite (Le.bind (Le.ite (Le.bind (Le.refl _) fun a11 =>
    Le.bind (Le.refl _) fun c12 =>
    Le.bind (Le.refl _) fun q13 =>
    Le.bind (Le.refl _) fun c14 =>
    Le.bind (Le.refl _) fun n15 =>
    Le.refl _) (Le.refl _)) fun q10 =>
    Le.refl _) (Le.refl _)) fun q9 =>
    h.f46_1 _ _ _ _ _ _ _ _) (Le.bind (Le.refl _) fun a16 =>
    Le.bind (Le.refl _) fun c17 =>
    Le.bind (Le.refl _) fun k18 =>
    h.f46_2 _ _ _ _ _ _ _ _)
theorem le62 {T : Tab} {M : Mach} (h : T.Le M) (n : Int) (x1 : C) (H : Heap) : Vm.Le (b62 T M.lim n x1 H) (f62 M n x1 H) := by
  rw [f62_eq]
  exact
    Le.bind (Le.refl _) fun a1 =>
    Le.bind (Le.refl _) fun c2 =>
    Le.bind (Le.refl _) fun n3 =>
    Le.bind (h.f44 _ _ _ _) fun q4 =>
    Le.bind (Le.refl _) fun c5 =>
    Le.bind (Le.refl _) fun b6 =>
    Le.refl _
theorem le63 {T : Tab} {M : Mach} (h : T.Le M) (a_0 : Int) (a_1 : Int) (a_2 : Int) (b_0 : Int) (b_1 : Int) (b_2 : Int) (H : Heap) : Vm.Le (b63 T M.lim a_0 a_1 a_2 b_0 b_1 b_2 H) (f63 M a_0 a_1 a_2 b_0 b_1 b_2 H) := by
  rw [f63_eq]
  exact
    Le.bind (h.f65 _ _ _) fun q1 =>
    Le.bind (Le.refl _) fun c2 =>
    Le.bind (Le.refl _) fun n3 =>
    Le.bind (h.f65 _ _ _) fun q4 =>
    Le.bind (Le.refl _) fun c5 =>
    Le.bind (Le.refl _) fun n6 =>
    Le.bind (h.f65 _ _ _) fun q7 =>
    Le.bind (Le.refl _) fun c8 =>
    Le.bind (Le.refl _) fun n9 =>
    let H10 := Heap.alloc q7.2 (.cells 1 [(.int .i64 n3), (.int .i64 n6), (.int .i64 n9)]); Le.bind (h.f64 _ _) fun q11 =>
    Le.bind (Le.refl _) fun c12 =>
    Le.bind (Le.refl _) fun n13 =>
    Le.refl _
theorem le47_1 {T : Tab} {M : Mach} (h : T.Le M) (g_0 : Int) (g_1 : C) (g_2 : C) (x4_0 : Int) (x4_1 : C) (x4_2 : C) (x4_3 : C) (x4_4 : C) (out : C) (x_0 : Int) (x_1 : C) (x_2 : C) (x_3 : C) (x_4 : C) (vopen : C) (x28 : C) (x29 : Int) (x30 : Int) (H : Heap) : Vm.Le (b47_1 T M.lim g_0 g_1 g_2 x4_0 x4_1 x4_2 x4_3 x4_4 out x_0 x_1 x_2 x_3 x_4 vopen x28 x29 x30 H) (f47_1 M g_0 g_1 g_2 x4_0 x4_1 x4_2 x4_3 x4_4 out x_0 x_1 x_2 x_3 x_4 vopen x28 x29 x30 H) := by
  rw [f47_1_eq]
  exact
    Le.ite (Le.bind (Le.refl _) fun q1 =>
    Le.bind (Le.refl _) fun c2 =>
    Le.bind (Le.refl _) fun n3 =>
    Le.bind (Le.refl _) fun q4 =>
    Le.bind (Le.refl _) fun H5 =>
    h.f47_1 _ _ _ _ _ _ _ _ _ _ _ _ _ _ _ _ _ _ _) (h.f47_2 _ _ _ _ _ _ _ _ _ _ _ _ _ _ _ _)
theorem le66 {T : Tab} {M : Mach} (h : T.Le M) (x : C) (count : Int) (H : Heap) : Vm.Le (b66 T M.lim x count H) (f66 M x count H) := by
  rw [f66_eq]
  exact
    Le.ite (Le.refl _) (h.f66_1 _ _ _)
theorem le67 {T : Tab} {M : Mach} (h : T.Le M) (s : C) (H : Heap) : Vm.Le (b67 T M.lim s H) (f67 M s H) := by
  rw [f67_eq]
  exact
    Le.bind (Le.refl _) fun b1 =>
    Le.ite (Le.refl _) (let H2 := Heap.alloc H (.cells 1 []); Le.bind (Le.refl _) fun xs3 =>
    Le.bind (Le.refl _) fun k4 =>
    Le.bind (Le.refl _) fun q5 =>
    Le.refl _)
theorem le48_1 {T : Tab} {M : Mach} (h : T.Le M) (to : Int) (x_0 : Int) (x_1 : C) (x_2 : C) (x_3 : C) (x_4 : C) (out : C) (H : Heap) : Vm.Le (b48_1 T M.lim to x_0 x_1 x_2 x_3 x_4 out H) (f48_1 M to x_0 x_1 x_2 x_3 x_4 out H) := by
  rw [f48_1_eq]
  exact
    Le.bind (Le.refl _) fun q1 =>
    Le.bind (Le.refl _) fun c2 =>
    Le.bind (Le.refl _) fun n3 =>
    Le.ite (Le.bind (Le.refl _) fun q4 =>
    Le.bind (Le.refl _) fun c5 =>
    Le.bind (Le.refl _) fun n6 =>
    let H7 := Heap.alloc H (.cells 1 [(.int .i64 n6)]); Le.bind (Le.refl _) fun xs8 =>
    Le.bind (Le.refl _) fun q9 =>
    Le.bind (Le.refl _) fun q10 =>
    Le.bind (Le.refl _) fun c11 =>
    Le.bind (Le.refl _) fun n12 =>
    Le.bind (Le.refl _) fun q13 =>
    Le.bind (Le.refl _) fun c14 =>
    Le.bind (Le.refl _) fun n15 =>
    h.f48_1 _ _ _ _ _ _ _ _) (Le.bind (h.f68 _ _) fun q16 =>
    Le.refl _)
theorem le25_2 {T : Tab} {M : Mach} (h : T.Le M) (w : C) (g_0 : Int) (g_1 : C) (g_2 : C) (x_0 : Int) (x_1 : Int) (x6_0 : Int) (x6_1 : C) (x6_2 : Bool) (n : C) (out : C) (vat : Int) (walk_0 : Int) (walk_1 : C) (walk_2 : Bool) (sum : Int) (x62 : C) (x63 : Int) (x64 : Int) (H : Heap) : Vm.Le (b25_2 T M.lim w g_0 g_1 g_2 x_0 x_1 x6_0 x6_1 x6_2 n out vat walk_0 walk_1 walk_2 sum x62 x63 x64 H) (f25_2 M w g_0 g_1 g_2 x_0 x_1 x6_0 x6_1 x6_2 n out vat walk_0 walk_1 walk_2 sum x62 x63 x64 H) := by
  rw [f25_2_eq]
  exact
    Le.ite (Le.bind (Le.refl _) fun q1 =>
    Le.bind (Le.refl _) fun c2 =>
    Le.bind (Le.refl _) fun n3 =>
    Le.bind (Le.refl _) fun q4 =>
    Le.bind (Le.refl _) fun c5 =>
    Le.bind (Le.refl _) fun n6 =>
    Le.bind (Le.refl _) fun q7 =>
    Le.bind (Le.refl _) fun c8 =>
    Le.bind (Le.refl _) fun n9 =>
    h.f25_2 _ _ _ _ _ _ _ _ _ _ _ _ _ _ _ _ _ _ _ _) (Le.bind (Le.ite (Le.bind (Le.refl _) fun k11 =>
    Le.refl _) (Le.refl _)) fun q10 =>
    Le.ite (Le.refl _) (Le.bind (h.f45 _ _) fun q12 =>
    Le.bind (Le.refl _) fun c13 =>
    Le.bind (Le.refl _) fun n14 =>
    Le.ite (Le.refl _) (Le.bind (Le.refl _) fun q15 =>
    Le.bind (Le.refl _) fun c16 =>
    Le.bind (Le.refl _) fun k17 =>
    h.f25_3 _ _ _ _ _ _ _ _ _ _ _ _ _ _ _ _ _ _ _ _)))
theorem le70 {T : Tab} {M : Mach} (h : T.Le M) (s : C) (f : C) (H : Heap) : Vm.Le (b70 T M.lim s f H) (f70 M s f H) := by
  rw [f70_eq]
  exact
    Le.bind (h.f73 _ _ _) fun q1 =>
    Le.bind (Le.refl _) fun c2 =>
    Le.bind (Le.refl _) fun n3 =>
    Le.refl _
theorem le71 {T : Tab} {M : Mach} (h : T.Le M) (n : Int) (H : Heap) : Vm.Le (b71 T M.lim n H) (f71 M n H) := by
  rw [f71_eq]
  exact
    Le.bind (h.f44 _ _ _ _) fun q1 =>
    Le.bind (Le.refl _) fun c2 =>
    Le.bind (Le.refl _) fun b3 =>
    Le.refl _
theorem le53_1 {T : Tab} {M : Mach} (h : T.Le M) (out : C) (x10 : C) (x11 : Int) (x12 : Int) (H : Heap) : Vm.Le (b53_1 T M.lim out x10 x11 x12 H) (f53_1 M out x10 x11 x12 H) := by
  rw [f53_1_eq]
  exact
    Le.ite (Le.bind (Le.refl _) fun q1 =>
    Le.bind (Le.refl _) fun c2 =>
    Le.bind (Le.refl _) fun n3 =>
    Le.bind (Le.refl _) fun c4 =>
    Le.bind (Le.refl _) fun n5 =>
    Le.bind (Le.refl _) fun c6 =>
    Le.bind (Le.refl _) fun n7 =>
    Le.bind (Le.refl _) fun q8 =>
    Le.bind (Le.refl _) fun c9 =>
    let H10 := Heap.alloc H (.cells 1 [(.int .i64 x12)]); Le.bind (Le.refl _) fun xs11 =>
    Le.bind (Le.refl _) fun q12 =>
    Le.bind (Le.refl _) fun q13 =>
    Le.bind (Le.refl _) fun H14 =>
    h.f53_1 _ _ _ _ _) (Le.refl _)
theorem le46_2 {T : Tab} {M : Mach} (h : T.Le M) (g : C) (state : C) (order : C) (right : Bool) (x50 : C) (x51 : Int) (x52 : Int) (H : Heap) : Vm.Le (b46_2 T M.lim g state order right x50 x51 x52 H) (f46_2 M g state order right x50 x51 x52 H) := by
  rw [f46_2_eq]
  exact
    Le.ite (Le.bind (Le.refl _) fun q1 =>
    Le.bind (Le.refl _) fun c2 =>
    Le.bind (Le.refl _) fun n3 =>
    Le.bind (Le.refl _) fun c4 =>
    Le.bind (Le.refl _) fun n5 =>
    Le.bind (Le.refl _) fun c6 =>
    Le.bind (Le.refl _) fun n7 =>
    Le.bind (Le.ite (Le.bind (Le.refl _) fun g9 =>
    Le.bind (h.call _ _ _) fun q10 =>
    Le.bind (Le.refl _) fun c11 =>
    Le.bind (Le.refl _) fun b12 =>
    Le.refl _) (Le.refl _)) fun q8 =>
    Le.bind (Le.ite (Le.bind (Le.refl _) fun g14 =>
    Le.bind (h.call _ _ _) fun q15 =>
    Le.bind (Le.refl _) fun c16 =>
    Le.bind (Le.refl _) fun b17 =>
    Le.refl _) (Le.refl _)) fun q13 =>
    Le.bind (Le.ite (Le.bind (h.f44 _ _ _ _) fun q19 =>
    Le.bind (Le.refl _) fun c20 =>
    Le.bind (Le.refl _) fun b21 =>
    Le.refl _) (Le.refl _)) fun q18 =>
    Le.bind (Le.ite (Le.bind (Le.ite (Le.bind (Le.refl _) fun a24 =>
    Le.bind (Le.refl _) fun c25 =>
    Le.bind (Le.refl _) fun q26 =>
    Le.bind (Le.refl _) fun c27 =>
    Le.bind (Le.refl _) fun n28 =>
    Le.bind (Le.refl _) fun c29 =>
    Le.bind (Le.refl _) fun n30 =>
    Le.bind (Le.refl _) fun c31 =>
    Le.bind (Le.refl _) fun n32 =>
    Le.bind (Le.refl _) fun g33 =>
    Le.bind (h.call _ _ _) fun q34 =>
    Le.bind (Le.refl _) fun c35 =>
    Le.bind (Le.refl _) fun n36 =>
    Le.refl _) (Le.refl _)) fun q23 =>
    Le.refl _) (Le.refl _)) fun q22 =>
    h.f46_2 _ _ _ _ _ _ _ _) (Le.bind (h.f43 _ _ _) fun q37 =>
    Le.bind (Le.refl _) fun c38 =>
    Le.bind (Le.refl _) fun n39 =>
    Le.refl _)
theorem le64 {T : Tab} {M : Mach} (h : T.Le M) (vals : C) (H : Heap) : Vm.Le (b64 T M.lim vals H) (f64 M vals H) := by
  rw [f64_eq]
  exact
    Le.bind (Le.refl _) fun k1 =>
    h.f64_1 _ _ _ _ _
theorem le65 {T : Tab} {M : Mach} (h : T.Le M) (x : Int) (y : Int) (H : Heap) : Vm.Le (b65 T M.lim x y H) (f65 M x y H) := by
  rw [f65_eq]
  exact
    Le.bind (h.f74 _ _) fun q1 =>
    Le.bind (Le.refl _) fun c2 =>
    Le.bind (Le.refl _) fun b3 =>
    Le.bind (h.f74 _ _) fun q4 =>
    Le.bind (Le.refl _) fun c5 =>
    Le.bind (Le.refl _) fun b6 =>
    Le.ite (Le.ite (Le.refl _) (Le.refl _)) (Le.ite (Le.refl _) (Le.ite (Le.refl _) (Le.ite (Le.refl _) (Le.refl _))))
theorem le47_2 {T : Tab} {M : Mach} (h : T.Le M) (g_0 : Int) (g_1 : C) (g_2 : C) (x4_0 : Int) (x4_1 : C) (x4_2 : C) (x4_3 : C) (x4_4 : C) (out : C) (x_0 : Int) (x_1 : C) (x_2 : C) (x_3 : C) (x_4 : C) (vopen : C) (H : Heap) : Vm.Le (b47_2 T M.lim g_0 g_1 g_2 x4_0 x4_1 x4_2 x4_3 x4_4 out x_0 x_1 x_2 x_3 x_4 vopen H) (f47_2 M g_0 g_1 g_2 x4_0 x4_1 x4_2 x4_3 x4_4 out x_0 x_1 x_2 x_3 x_4 vopen H) := by
  rw [f47_2_eq]
  exact
    Le.bind (Le.refl _) fun k1 =>
    Le.ite (Le.bind (Le.refl _) fun q2 =>
    Le.bind (Le.refl _) fun c3 =>
    Le.bind (Le.refl _) fun n4 =>
    Le.bind (Le.refl _) fun c5 =>
    Le.bind (Le.refl _) fun q6 =>
    Le.bind (Le.refl _) fun c7 =>
    Le.bind (Le.refl _) fun k8 =>
    h.f47_3 _ _ _ _ _ _ _ _ _ _ _ _ _ _ _ _ _ _ _ _) (Le.refl _)
theorem le66_1 {T : Tab} {M : Mach} (h : T.Le M) (x : C) (count : Int) (H : Heap) : Vm.Le (b66_1 T M.lim x count H) (f66_1 M x count H) := by
  rw [f66_1_eq]
  exact
    Le.bind (Le.refl _) fun k1 =>
    Le.bind (h.f75 _ _ _) fun q2 =>
    Le.bind (Le.refl _) fun v3 =>
    Le.bind (Le.refl _) fun c4 =>
    Le.bind (Le.refl _) fun n5 =>
    Le.bind (Le.refl _) fun v6 =>
    Le.bind (Le.refl _) fun c7 =>
    Le.bind (Le.refl _) fun n8 =>
    Le.bind (Le.ite (Le.refl _) (Le.refl _)) fun q9 =>
    Le.ite (Le.refl _) (h.f66_2 _ _ _)
theorem le68 {T : Tab} {M : Mach} (h : T.Le M) (s : C) (H : Heap) : Vm.Le (b68 T M.lim s H) (f68 M s H) := by
  rw [f68_eq]
  exact
    Le.bind (Le.refl _) fun k1 =>
    h.f68_1 _ _ _ _
theorem le25_3 {T : Tab} {M : Mach} (h : T.Le M) (w : C) (g_0 : Int) (g_1 : C) (g_2 : C) (x_0 : Int) (x_1 : Int) (x6_0 : Int) (x6_1 : C) (x6_2 : Bool) (n : C) (out : C) (vat : Int) (walk_0 : Int) (walk_1 : C) (walk_2 : Bool) (left : Int) (x101 : C) (x102 : Int) (x103 : Int) (H : Heap) : Vm.Le (b25_3 T M.lim w g_0 g_1 g_2 x_0 x_1 x6_0 x6_1 x6_2 n out vat walk_0 walk_1 walk_2 left x101 x102 x103 H) (f25_3 M w g_0 g_1 g_2 x_0 x_1 x6_0 x6_1 x6_2 n out vat walk_0 walk_1 walk_2 left x101 x102 x103 H) := by
  rw [f25_3_eq]
  exact
    Le.ite (Le.bind (Le.refl _) fun q1 =>
    Le.bind (Le.refl _) fun c2 =>
    Le.bind (Le.refl _) fun n3 =>
    Le.bind (Le.refl _) fun q4 =>
    Le.bind (Le.refl _) fun c5 =>
    Le.bind (Le.refl _) fun n6 =>
    Le.bind (Le.refl _) fun q7 =>
    Le.bind (Le.refl _) fun c8 =>
    Le.bind (Le.refl _) fun n9 =>
    Le.ite (let H10 := Heap.alloc H (.cells 1 [(.int .i64 n3)]); Le.bind (Le.refl _) fun xs11 =>
    Le.bind (Le.refl _) fun q12 =>
    Le.bind (Le.refl _) fun q13 =>
    Le.bind (Le.refl _) fun c14 =>
    Le.bind (Le.refl _) fun n15 =>
    h.f25_1 _ _ _ _ _ _ _ _ _ _ _ _ _ _ _ _) (h.f25_3 _ _ _ _ _ _ _ _ _ _ _ _ _ _ _ _ _ _ _ _)) (h.f25_1 _ _ _ _ _ _ _ _ _ _ _ _ _ _ _ _)
theorem le73 {T : Tab} {M : Mach} (h : T.Le M) (s : C) (f : C) (H : Heap) : Vm.Le (b73 T M.lim s f H) (f73 M s f H) := by
  rw [f73_eq]
  exact
    Le.bind (Le.refl _) fun k1 =>
    h.f73_1 _ _ _ _ _
theorem le64_1 {T : Tab} {M : Mach} (h : T.Le M) (zero : Int) (x6 : C) (x7 : Int) (x8 : Int) (H : Heap) : Vm.Le (b64_1 T M.lim zero x6 x7 x8 H) (f64_1 M zero x6 x7 x8 H) := by
  rw [f64_1_eq]
  exact
    Le.ite (Le.bind (Le.refl _) fun q1 =>
    Le.bind (Le.refl _) fun c2 =>
    Le.bind (Le.refl _) fun n3 =>
    Le.ite (Le.refl _) (h.f64_1 _ _ _ _ _)) (Le.refl _)
theorem le74 {T : Tab} {M : Mach} (h : T.Le M) (x : Int) (H : Heap) : Vm.Le (b74 T M.lim x H) (f74 M x H) := by
  rw [f74_eq]
  exact
    Le.refl _
theorem le47_3 {T : Tab} {M : Mach} (h : T.Le M) (g_0 : Int) (g_1 : C) (g_2 : C) (x4_0 : Int) (x4_1 : C) (x4_2 : C) (x4_3 : C) (x4_4 : C) (out : C) (x_0 : Int) (x_1 : C) (x_2 : C) (x_3 : C) (x_4 : C) (vopen : C) (s : Int) (x50 : C) (x51 : Int) (x52 : Int) (H : Heap) : Vm.Le (b47_3 T M.lim g_0 g_1 g_2 x4_0 x4_1 x4_2 x4_3 x4_4 out x_0 x_1 x_2 x_3 x_4 vopen s x50 x51 x52 H) (f47_3 M g_0 g_1 g_2 x4_0 x4_1 x4_2 x4_3 x4_4 out x_0 x_1 x_2 x_3 x_4 vopen s x50 x51 x52 H) := by
  rw [f47_3_eq]
  exact
    Le.ite (Le.bind (Le.refl _) fun q1 =>
    Le.bind (Le.refl _) fun c2 =>
    Le.bind (Le.refl _) fun n3 =>
    Le.bind (Le.refl _) fun q4 =>
    Le.bind (Le.refl _) fun c5 =>
    Le.bind (Le.refl _) fun n6 =>
    Le.bind (Le.refl _) fun q7 =>
    Le.bind (Le.refl _) fun c8 =>
    Le.bind (Le.refl _) fun n9 =>
    Le.ite (Le.bind (Le.refl _) fun q10 =>
    Le.bind (Le.refl _) fun c11 =>
    Le.bind (Le.refl _) fun n12 =>
    Le.bind (Le.refl _) fun q13 =>
    Le.bind (Le.refl _) fun H14 =>
    Le.bind (Le.refl _) fun q15 =>
    Le.bind (Le.refl _) fun H16 =>
    let H17 := Heap.alloc H16 (.cells 1 [(.int .i64 n6)]); Le.bind (Le.refl _) fun xs18 =>
    Le.bind (Le.refl _) fun q19 =>
    h.f47_4 _ _ _ _ _ _ _ _ _ _ _ _ _ _ _ _ _ _ _ _) (h.f47_4 _ _ _ _ _ _ _ _ _ _ _ _ _ _ _ _ _ _ _ _)) (h.f47_2 _ _ _ _ _ _ _ _ _ _ _ _ _ _ _ _)
theorem le66_2 {T : Tab} {M : Mach} (h : T.Le M) (x : C) (lo : Int) (H : Heap) : Vm.Le (b66_2 T M.lim x lo H) (f66_2 M x lo H) := by
  rw [f66_2_eq]
  exact
    Le.ite (let H1 := Heap.alloc H (.cells 1 (List.replicate (Int.toNat (IntKind.wrap .i64 lo)) [(.int .i64 0)]).flatten); Le.bind (Le.refl _) fun xs2 =>
    Le.bind (Le.refl _) fun k3 =>
    Le.bind (Le.refl _) fun q4 =>
    h.f66_3 _ _ _) (Le.refl _)
theorem le75 {T : Tab} {M : Mach} (h : T.Le M) (x : Int) (y : Int) (H : Heap) : Vm.Le (b75 T M.lim x y H) (f75 M x y H) := by
  rw [f75_eq]
  exact
    Le.bind (h.f78 _ _ _) fun q1 =>
    Le.bind (Le.refl _) fun v2 =>
    Le.bind (Le.refl _) fun c3 =>
    Le.bind (Le.refl _) fun n4 =>
    Le.bind (Le.refl _) fun v5 =>
    Le.bind (Le.refl _) fun c6 =>
    Le.bind (Le.refl _) fun n7 =>
    Le.refl _
theorem le68_1 {T : Tab} {M : Mach} (h : T.Le M) (s : C) (i : Int) (j : Int) (H : Heap) : Vm.Le (b68_1 T M.lim s i j H) (f68_1 M s i j H) := by
  rw [f68_1_eq]
  exact
    Le.ite (Le.bind (Le.refl _) fun q1 =>
    Le.bind (Le.refl _) fun c2 =>
    Le.bind (Le.refl _) fun n3 =>
    Le.bind (Le.refl _) fun q4 =>
    Le.bind (Le.refl _) fun c5 =>
    Le.bind (Le.refl _) fun n6 =>
    Le.bind (Le.refl _) fun q7 =>
    Le.bind (Le.refl _) fun H8 =>
    Le.bind (Le.refl _) fun q9 =>
    Le.bind (Le.refl _) fun H10 =>
    h.f68_1 _ _ _ _) (Le.refl _)
theorem le73_1 {T : Tab} {M : Mach} (h : T.Le M) (s : C) (f : C) (x7 : Int) (x8 : Int) (H : Heap) : Vm.Le (b73_1 T M.lim s f x7 x8 H) (f73_1 M s f x7 x8 H) := by
  rw [f73_1_eq]
  exact
    Le.ite (Le.bind (Le.refl _) fun q1 =>
    Le.bind (Le.refl _) fun c2 =>
    Le.bind (Le.refl _) fun n3 =>
    Le.bind (Le.refl _) fun g4 =>
    Le.bind (h.call _ _ _) fun q5 =>
    Le.bind (Le.refl _) fun c6 =>
    Le.bind (Le.refl _) fun b7 =>
    Le.ite (Le.refl _) (h.f73_1 _ _ _ _ _)) (Le.refl _)
theorem le47_4 {T : Tab} {M : Mach} (h : T.Le M) (g_0 : Int) (g_1 : C) (g_2 : C) (x4_0 : Int) (x4_1 : C) (x4_2 : C) (x4_3 : C) (x4_4 : C) (out : C) (x_0 : Int) (x_1 : C) (x_2 : C) (x_3 : C) (x_4 : C) (vopen : C) (s : Int) (x50 : C) (x51 : Int) (x52 : Int) (H : Heap) : Vm.Le (b47_4 T M.lim g_0 g_1 g_2 x4_0 x4_1 x4_2 x4_3 x4_4 out x_0 x_1 x_2 x_3 x_4 vopen s x50 x51 x52 H) (f47_4 M g_0 g_1 g_2 x4_0 x4_1 x4_2 x4_3 x4_4 out x_0 x_1 x_2 x_3 x_4 vopen s x50 x51 x52 H) := by
  rw [f47_4_eq]
  exact
    h.f47_3 _ _ _ _ _ _ _ _ _ _ _ _ _ _ _ _ _ _ _ _
theorem le66_3 {T : Tab} {M : Mach} (h : T.Le M) (newslice : C) (n : Int) (H : Heap) : Vm.Le (b66_3 T M.lim newslice n H) (f66_3 M newslice n H) := by
  rw [f66_3_eq]
  exact
    Le.bind (Le.refl _) fun k1 =>
    Le.ite (Le.bind (Le.refl _) fun c2 =>
    Le.bind (Le.refl _) fun c3 =>
    Le.bind (Le.refl _) fun xs4 =>
    Le.bind (Le.refl _) fun k5 =>
    Le.bind (Le.refl _) fun q6 =>
    h.f66_3 _ _ _) (Le.refl _)
theorem le78 {T : Tab} {M : Mach} (h : T.Le M) (x : Int) (y : Int) (H : Heap) : Vm.Le (b78 T M.lim x y H) (f78 M x y H) := by
  rw [f78_eq]
  exact
    Le.refl _
theorem lecall {T : Tab} {M : Mach} (h : T.Le M) (f : FuncId) (vs : List V) (H : Heap) : Vm.Le (bcall T f vs H) (mcall M f vs H) := by
  unfold bcall
  split
  · rename_i e; subst e; split
    · exact h.f62 _ _ _
    · exact Le.none _
  split
  · rename_i e; subst e; split
    · exact h.f63 _ _ _ _ _ _ _
    · exact Le.none _
  split
  · rename_i e; subst e; split
    · exact h.f71 _ _
    · exact Le.none _
  exact Le.none _
theorem Tab.le_none (M : Mach) : Tab.none.Le M := ⟨fun _ => Le.none _, fun _ _ _ => Le.none _, fun _ _ _ => Le.none _, fun _ _ _ _ => Le.none _, fun _ _ _ _ _ => Le.none _, fun _ _ _ _ _ _ _ => Le.none _, fun _ => Le.none _, fun _ => Le.none _, fun _ _ _ _ _ => Le.none _, fun _ _ => Le.none _, fun _ _ => Le.none _, fun _ _ _ => Le.none _, fun _ _ _ _ => Le.none _, fun _ _ _ _ => Le.none _, fun _ _ _ _ => Le.none _, fun _ _ _ _ _ => Le.none _, fun _ _ _ _ _ _ _ => Le.none _, fun _ _ _ _ _ _ _ _ _ _ _ _ _ _ _ _ => Le.none _, fun _ _ => Le.none _, fun _ _ => Le.none _, fun _ _ _ _ => Le.none _, fun _ _ _ => Le.none _, fun _ _ _ _ => Le.none _, fun _ _ _ _ _ _ _ _ => Le.none _, fun _ _ _ => Le.none _, fun _ _ _ _ _ _ _ => Le.none _, fun _ _ _ _ _ _ _ _ _ _ _ _ _ _ _ _ _ _ _ => Le.none _, fun _ _ _ => Le.none _, fun _ _ => Le.none _, fun _ _ _ _ _ _ _ _ => Le.none _, fun _ _ _ _ _ _ _ _ _ _ _ _ _ _ _ _ _ _ _ _ => Le.none _, fun _ _ _ => Le.none _, fun _ _ => Le.none _, fun _ _ _ _ _ => Le.none _, fun _ _ _ _ _ _ _ _ => Le.none _, fun _ _ => Le.none _, fun _ _ _ => Le.none _, fun _ _ _ _ _ _ _ _ _ _ _ _ _ _ _ _ => Le.none _, fun _ _ _ => Le.none _, fun _ _ => Le.none _, fun _ _ _ _ _ _ _ _ _ _ _ _ _ _ _ _ _ _ _ _ => Le.none _, fun _ _ _ => Le.none _, fun _ _ _ _ _ => Le.none _, fun _ _ => Le.none _, fun _ _ _ _ _ _ _ _ _ _ _ _ _ _ _ _ _ _ _ _ => Le.none _, fun _ _ _ => Le.none _, fun _ _ _ => Le.none _, fun _ _ _ _ => Le.none _, fun _ _ _ _ _ => Le.none _, fun _ _ _ _ _ _ _ _ _ _ _ _ _ _ _ _ _ _ _ _ => Le.none _, fun _ _ _ => Le.none _, fun _ _ _ => Le.none _, fun _ _ _ => Le.none _⟩
theorem Tab.Le.step {T : Tab} {M : Mach} (h : T.Le M) (ho : M.out = false) : (T.step M.lim).Le M := ⟨le10 h ho, le11 h, le14 h, le17 h, le19 h, le25 h, le39 h, le40 h, le11_1 h, le41 h, le42 h, le43 h, le44 h, le14_1 h, le46 h, le47 h, le48 h, le25_1 h, le45 h, le52 h, le53 h, le40_1 h, le41_1 h, le46_1 h, le62 h, le63 h, le47_1 h, le66 h, le67 h, le48_1 h, le25_2 h, le70 h, le71 h, le53_1 h, le46_2 h, le64 h, le65 h, le47_2 h, le66_1 h, le68 h, le25_3 h, le73 h, le64_1 h, le74 h, le47_3 h, le66_2 h, le75 h, le68_1 h, le73_1 h, le47_4 h, le66_3 h, le78 h, lecall h⟩
theorem tabN_le (M : Mach) (ho : M.out = false) : ∀ k, (tabN M.lim k).Le M
  | 0 => Tab.le_none M
  | k + 1 => (tabN_le M ho k).step ho
end Go.Proofs.Ytnnjklkfcleleaa.R
