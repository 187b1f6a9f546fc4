/-
  CHAPTER 19: the law of independent actions.
-/
import Derived.Test.YthjjbkiejkhjfaaWm
import Derived.Test.YthjjbkiejkhjfaaWx
import Derived.Test.YthjjbkiejkhjfaaWz
namespace Go.Proofs.Ythjjbkiejkhjfaa.R
open Go Go.Proofs.Ythjjbkiejkhjfaa.Vm
set_option linter.unusedVariables false
set_option linter.unusedSimpArgs false
section
variable {M : YM} {N : Nat} {n : Int} {b1 b2 b3 : Bool} {l : List Int} {es : List E3} {u1 : U}
theorem eq_u4 (x y : Int × Int × Int × Int) : eqUs ks0 (.st [.c (.int .i64 x.1), .c (.int .i64 x.2.1), .c (.int .i64 x.2.2.1), .c (.int .i64 x.2.2.2)] : U) (.st [.c (.int .i64 y.1), .c (.int .i64 y.2.1), .c (.int .i64 y.2.2.1), .c (.int .i64 y.2.2.2)] : U) = some (decide (x.1 = y.1) && (decide (x.2.1 = y.2.1) && (decide (x.2.2.1 = y.2.2.1) && (decide (x.2.2.2 = y.2.2.2) && true)))) := rfl
theorem eq_same (a b c d : Int) : eqUs ks0 (.st [.c (.int .i64 a), .c (.int .i64 b), .c (.int .i64 c), .c (.int .i64 d)] : U) (.st [.c (.int .i64 a), .c (.int .i64 b), .c (.int .i64 c), .c (.int .i64 d)] : U) = some true := by
  rw [eq_u4 (a, b, c, d) (a, b, c, d)]
  simp
def pErr (a b : Int) : Int := firstErr [if btw a 0 11 = true then 0 else 3, if btw b 0 11 = true then 0 else 3, if a = b then 5 else 0]
def dErr (n : Int) (l : List Int) (es : List E3) (a b : Int) : Int := if gErr n l es = 0 then pErr a b else gErr n l es
theorem y34_is (hM : M.ext = yExt2) {n a b : Int} (hl : l.length ≤ 1000000) (he : es.length ≤ 1000000) :
    y34 M n (uIs b1 l) (uEs b2 es) a b = some (.tup [u4 (if dErr n l es a b = 0 then r4 (clashL es a b n.toNat 0) else (0, 0, 0, 0)), uI (if dErr n l es a b = 0 then (if (clashL es a b n.toNat 0).isSome = true then 0 else 25) else dErr n l es a b)]) := by
  have hlit := fun a b c d => y49_lit (M := M) [a, b, c, d] (by simp)
  simp only [List.map_cons, List.map_nil, uI] at hlit
  rw [y34_eq]
  simp only [y48_is hl he, y69_is, y68_is, Option.bind_some, toU_val, asI_c, asB_c, hlit]
  have hd : firstErr [gErr n l es, if btw a 0 11 = true then 0 else 3, if btw b 0 11 = true then 0 else 3, if (!decide (a = b)) = true then 0 else 5] = dErr n l es a b := by
    unfold dErr pErr
    by_cases h : gErr n l es = 0 <;> by_cases h2 : a = b <;> simp [firstErr, h, h2]
  rw [hd]
  by_cases h0 : dErr n l es a b = 0
  · have hg : gErr n l es = 0 := by unfold dErr at h0; split at h0 <;> assumption
    have hp : pErr a b = 0 := by unfold dErr at h0; rw [if_pos hg] at h0; exact h0
    obtain ⟨N, rfl, hN, g4, _, hok, hed⟩ := gErr_nat2 hg
    have ha : btw a 0 11 = true ∧ btw b 0 11 = true := by
      unfold pErr at hp
      cases h1 : btw a 0 11 <;> cases h2 : btw b 0 11 <;> simp [firstErr, h1, h2] at hp ⊢
    simp only [btw, decide_eq_true_eq] at ha
    obtain ⟨⟨a1, a2⟩, a3, a4⟩ := ha
    obtain ⟨x, rfl⟩ := Int.eq_ofNat_of_zero_le a1
    obtain ⟨y, rfl⟩ := Int.eq_ofNat_of_zero_le a3
    obtain ⟨f, f0, f1, f2, f3, f4⟩ := exact_u4 (r4 (clashL es (x : Int) (y : Int) N 0))
    have ho : U.one (openU N (uIs b1 l) b2 es) = some (openU N (uIs b1 l) b2 es) := rfl
    simp only [h0, decide_true, Bool.not_true, Bool.false_eq_true, if_false, if_true, y61_is hM hN g4 hed, Option.bind_some, toU_val, ho, y70_is (M := M) (u1 := uIs b1 l) (b2 := b2) hN g4 hok (sorted_of hed).2 (show x < 12 by omega) (show y < 12 by omega), resC_is, asTup_tup, List.getElem?_cons_zero, List.getElem?_cons_succ, f0, f1, f2, f3, f4, i_uI, asB_c, y68_is, asI_uI, Int.toNat_natCast]
    rfl
  · simp only [h0, decide_false, Bool.not_false, if_true, if_false]
    rfl
theorem row_get {bs : List (Bool × List Int)} (h : bs.map (·.2) = rows es N 12) {a : Nat} (ha : a < 12) : ∃ b, bs[a]? = some (b, free es N a) := by
  have h1 := congrArg (fun l : List (List Int) => l[a]?) h
  simp only [List.getElem?_map, rows, List.getElem?_range ha, Option.map_some] at h1
  obtain ⟨x, h2, h3⟩ := Option.map_eq_some_iff.1 h1
  exact ⟨x.1, by rw [h2, ← h3]⟩
theorem free_len (es : List E3) (N a : Nat) : (free es N a).length ≤ 12 := picks_len _ _ _
theorem mem_free {a b : Nat} (hb : b < 12) : decide ((b : Int) ∈ free es N a) = !DD es N a b := by
  rw [Bool.eq_iff_iff, decide_eq_true_eq]
  unfold free
  rw [mem_picks]
  constructor
  · rintro ⟨j, _, _, h3, h4⟩
    have : j = b := by omega
    subst this; exact h4
  · intro h
    exact ⟨b, by omega, by omega, rfl, h⟩
/-- the law of independent actions, after awake -/
theorem independent_ok (hM : M.ext = yExt2) (h10 : y10 M = some (.val (.c (.bool true)))) {n a b : Int} : y6 M n (uIs b1 l) (uEs b2 es) a b = some (.val (.c (.bool true))) := by
  rw [y6_eq]
  simp only [h10, Option.bind_some, toU_val, asB_c, Bool.not_true, Bool.false_eq_true, if_false, y11_is]
  by_cases hf : few n l es = true
  rotate_left
  · simp only [Bool.not_eq_true] at hf
    simp [hf]
  have hf' := hf
  simp only [few, Bool.and_eq_true, decide_eq_true_eq] at hf'
  obtain ⟨⟨_, k1⟩, k2⟩ := hf'
  have g1 := y14_is (M := M) (n := n) (b1 := b1) (b2 := b2) (l := l) (es := es) (by omega) (by omega)
  obtain ⟨s, g2, g3⟩ := y33_is (M := M) (b1 := true) (b2 := true) hM (n := n) (l := l) (es := es) (by omega) (by omega)
  have g4 := y34_is (M := M) (b1 := true) (b2 := true) hM (n := n) (l := l) (es := es) (a := a) (b := b) (by omega) (by omega)
  have g5 := y17_is (M := M) (n := n) (b1 := b1) (b2 := b2) (l := l) (es := es) (by omega) (by omega)
  obtain ⟨f, f0, f1, f2, f3⟩ : ∃ f, U.exact (.st [uI n, uIs true l, uEs true es]) ks1 = some f ∧ f 0 = uI n ∧ f 1 = uIs true l ∧ f 2 = uEs true es := ⟨_, rfl, rfl, rfl, rfl⟩
  have ho : U.one (Sx.fz s) = some (Sx.fz s) := rfl
  obtain ⟨f', f0', f1', f2', f3', f4'⟩ := exact_u4 (if dErr n l es a b = 0 then r4 (clashL es a b n.toNat 0) else (0, 0, 0, 0))
  simp only [hf, Bool.not_true, Bool.false_eq_true, if_false, g1, Option.bind_some, toU_val, f0, f1, f2, f3, i_uI, g3, asTup_tup, List.getElem?_cons_zero, List.getElem?_cons_succ, ho, asI_uI, g4, f0', f1', f2', f3', f4', g5]
  obtain ⟨bs, e1, e2⟩ := g2.fz
  by_cases h0 : gErr n l es = 0
  rotate_left
  · have hd : dErr n l es a b = gErr n l es := by unfold dErr; rw [if_neg h0]
    have hb : bs = [] := by rw [if_neg h0] at e2; simpa using e2
    subst hb
    simp only [h0, hd, decide_false, Bool.not_false, if_true, if_false, decide_true, Option.bind_some, e1, len_uLs, eq_same]
    rfl
  obtain ⟨N, rfl, hN, he4, _, hok, hed⟩ := gErr_nat2 h0
  rw [if_pos h0, Int.toNat_natCast] at e2
  obtain ⟨s', j1, j2⟩ := y36_is (M := M) (b2 := b2) (g1 := uIs b1 l) hN he4 hok
  obtain ⟨bs', e1', e2'⟩ := j1.fz
  have hbl : bs.length = 12 := by have := congrArg List.length e2; simpa [rows] using this
  have hbx : ∀ x ∈ bs, x.2.length ≤ 1000000 := fun x hx => by
    have : x.2 ∈ rows es N 12 := by rw [← e2]; exact List.mem_map_of_mem hx
    obtain ⟨q, _, hq⟩ := List.mem_map.1 this
    have := free_len es N q
    rw [hq] at this
    omega
  have h35 := y35_is (M := M) (bx := s.b) (bz := s'.b) (xs := bs) (ys := bs') (by omega) (e2.trans e2'.symm) hbx
  have hd : dErr (N : Int) l es a b = pErr a b := by unfold dErr; rw [if_pos h0]
  simp only [h0, hd, decide_true, Bool.not_true, Bool.false_eq_true, if_false, if_true, j2, asSl_sl, Option.bind_some, e1, e1', h35, toU_val, asB_c, y37_is]
  cases ha : btw a 0 11 with
  | false =>
    have hp : pErr a b = 3 := by simp [pErr, firstErr, ha]
    simp [hp, eq_same]
  | true =>
    cases hb : btw b 0 11 with
    | false =>
      have hp : pErr a b = 3 := by simp [pErr, firstErr, ha, hb]
      simp [hp, eq_same]
    | true =>
      by_cases hab : a = b
      · subst hab
        have hp : pErr a a = 5 := by simp [pErr, firstErr, ha]
        simp [hp, eq_same]
      · have hp : pErr a b = 0 := by simp [pErr, firstErr, ha, hb, hab]
        simp only [btw, decide_eq_true_eq] at ha hb
        obtain ⟨x, rfl⟩ := Int.eq_ofNat_of_zero_le ha.1
        obtain ⟨y, rfl⟩ := Int.eq_ofNat_of_zero_le hb.1
        have hx : x < 12 := by omega
        have hy : y < 12 := by omega
        have hxy : ¬ x = y := fun e => hab (by rw [e])
        obtain ⟨f2', q0, q1, q2, q3, q4⟩ := exact_u4 (r4 (clashL es (x : Int) (y : Int) N 0))
        obtain ⟨bx, rx⟩ := row_get e2 hx
        obtain ⟨by', ry⟩ := row_get e2 hy
        have hm1 := mem_free (es := es) (N := N) (a := x) hy
        have hm2 := mem_free (es := es) (N := N) (a := y) hx
        rw [DD_is] at hm1 hm2
        rw [dep_symm] at hm2
        have hcs : (clashL es (x : Int) (y : Int) N 0).isSome = dep es N x y := rfl
        simp only [hp, hab, Bool.not_true, Bool.false_eq_true, Bool.true_eq_false, if_false, if_true, decide_true, decide_false, Option.bind_some, Int.toNat_natCast, y38_is hN he4 hok, resC_is, asTup_tup, List.getElem?_cons_zero, List.getElem?_cons_succ, q0, q1, q2, q3, q4, i_uI, asB_c, idx_uLs rx, idx_uLs ry, cell_uIs, y39_is (M := M) (show (free es N x).length ≤ 1000000 by have := free_len es N x; omega), y39_is (M := M) (show (free es N y).length ≤ 1000000 by have := free_len es N y; omega), toU_val, hm1, hm2, hcs, eq_same]
        cases hdp : dep es N x y with
        | true =>
          have hxy2 : ¬ y = x := fun e => hxy e.symm
          simp [hxy, hxy2]
        | false =>
          have h4 : r4 (clashL es (x : Int) (y : Int) N 0) = (0, 0, 0, 0) := by
            rw [← hcs] at hdp
            cases hc : clashL es (x : Int) (y : Int) N 0 with
            | none => rfl
            | some z => rw [hc] at hdp; cases hdp
          have hxy2 : ¬ y = x := fun e => hxy e.symm
          simp [hxy, hxy2, h4, eq_same]
theorem independent_all (us : List U) (h : TyPs [.struct [.int .i64, .sl [.int .i64], .sl [.int .i64, .int .i64, .int .i64]], .one (.int .i64), .one (.int .i64)] us) :
    Vm.yrun yExt2 yprog md 6 0 (us.map .val) [] = some (.val (.c (.bool true))) := by
  obtain ⟨u1, _, rfl, h1, u2, _, rfl, h2, u3, _, rfl, h3, rfl⟩ := h
  obtain ⟨n, b1, l, b2, es, rfl⟩ := ty_graph h1
  obtain ⟨a, rfl⟩ := ty_int h2
  obtain ⟨b, rfl⟩ := ty_int h3
  exact independent_ok (M := MM) MM_ext y10_true
end
end Go.Proofs.Ythjjbkiejkhjfaa.R
