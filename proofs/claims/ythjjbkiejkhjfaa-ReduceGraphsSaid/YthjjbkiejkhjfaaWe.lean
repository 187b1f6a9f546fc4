/-
  CHAPTER 19: the states that can be reached, the program.
-/
import Derived.Test.YthjjbkiejkhjfaaWd
namespace Go.Proofs.Ythjjbkiejkhjfaa.R
open Go Go.Proofs.Ythjjbkiejkhjfaa.Vm
set_option linter.unusedVariables false
set_option linter.unusedSimpArgs false
variable {M : YM}
/-- truth values of states -/
def uB (N : Nat) (p : Nat → Bool) : Sx := ⟨true, 1, (List.range N).map fun s => .c (.bool (p s))⟩
def upd (p : Nat → Bool) (x : Nat) (v : Bool) : Nat → Bool := fun j => if j = x then v else p j
theorem uB_len (N : Nat) (p : Nat → Bool) : (uB N p).es.length = N := by simp [uB]
theorem uB_has {N x : Nat} {p : Nat → Bool} (h : x < N) : Sx.has (uB N p) 1 (x : Int) = true := by
  simp only [Sx.has, uB_len]
  simp [uB, h]
theorem uB_get {N x : Nat} {p : Nat → Bool} (h : x < N) : ((uB N p).es)[((x : Int)).toNat]? = some (.c (.bool (p x))) := by
  simp [uB, h]
theorem uB_put {N x : Nat} {p : Nat → Bool} {v : Bool} (h : x < N) : Sx.put (uB N p) 1 ((x : Int)).toNat 0 (.c (.bool v)) = some (uB N (upd p x v)) := by
  have h1 : Sx.put (uB N p) 1 ((x : Int)).toNat 0 (.c (.bool v)) = some { uB N p with es := (uB N p).es.set x (.c (.bool v)) } := by
    unfold Sx.put
    rw [if_pos ⟨rfl, rfl⟩, if_pos ⟨rfl, by rw [uB_len, Int.toNat_natCast]; exact h⟩, Int.toNat_natCast]
  rw [h1]
  congr 1
  unfold uB
  simp only [Sx.mk.injEq, true_and]
  refine List.ext_getElem? fun j => ?_
  rw [List.getElem?_set]
  by_cases hj : j < N
  · by_cases hjx : x = j
    · subst hjx; simp [hj, upd]
    · have : ¬ j = x := fun e => hjx e.symm
      simp [hjx, this, hj, upd]
  · have : ¬ x = j := by omega
    simp [this, hj]
theorem uB_scals (N : Nat) (p : Nat → Bool) : Vm.scals (uB N p).es = true := by
  have : ∀ l : List Nat, Vm.scals (l.map fun s => U.c (.bool (p s))) = true := by
    intro l
    induction l with
    | nil => rfl
    | cons x l ih => simp only [List.map_cons, Vm.scals, ih, Bool.and_true]; rfl
  exact this _
inductive Reach (l : List Int) (es : List E3) : Nat → Prop
  | init {s : Nat} : (s : Int) ∈ l → Reach l es s
  | step {e : E3} {s t : Nat} : e ∈ es → e.f = (s : Int) → e.t = (t : Int) → Reach l es s → Reach l es t
/-- how many states are not marked -/
def cnt (p : Nat → Bool) : Nat → Nat
  | 0 => 0
  | n + 1 => cnt p n + (if p n = true then 0 else 1)
theorem cnt_le (p : Nat → Bool) : ∀ n, cnt p n ≤ n
  | 0 => Nat.le_refl _
  | n + 1 => by
    have := cnt_le p n
    simp only [cnt]
    split <;> omega
theorem cnt_same {p q : Nat → Bool} : ∀ {n : Nat}, (∀ j, j < n → p j = q j) → cnt p n = cnt q n
  | 0, _ => rfl
  | n + 1, h => by simp only [cnt, cnt_same (n := n) fun j hj => h j (by omega), h n (by omega)]
theorem cnt_upd {p : Nat → Bool} {x : Nat} (hp : p x = false) : ∀ {n : Nat}, x < n → cnt (upd p x true) n + 1 = cnt p n
  | n + 1, h => by
    by_cases hx : x = n
    · subst hx
      have h1 : cnt (upd p x true) x = cnt p x := cnt_same fun j hj => by simp [upd, show ¬ j = x by omega]
      simp only [cnt, h1, hp]
      simp [upd]
    · have ih := cnt_upd hp (n := n) (by omega)
      have h1 : upd p x true n = p n := by simp [upd, show ¬ n = x by omega]
      simp only [cnt, h1]
      omega
theorem openU_fields (N : Nat) (u1 : U) (b : Bool) (es : List E3) : ∃ v, (openU N u1 b es).asR = some (v, 0) ∧ U.cell v 0 = some (uI N) ∧ U.cell v (0 + 1) = some u1 ∧ U.cell v (0 + 2) = some (uEs b es) ∧ U.cell v (0 + 3) = some (.sl true ((tabOf gOut es N es.length).map rowU)) ∧ U.cell v (0 + 4) = some (.sl true ((byU N es).map .st)) :=
  ⟨_, rfl, rfl, rfl, rfl, rfl, rfl⟩
@[simp] theorem len_rowU (l : List Int) : U.len (rowU l) = some l.length := len_uIs _ _
@[simp] theorem cell_rowU (l : List Int) : U.cell (rowU l) 0 = some (rowU l) := rfl
theorem idx_rowU {l : List Int} {k : Nat} {x : Int} (h : l[k]? = some x) : U.idx 1 (rowU l) (k : Int) = some (uI x) := idx_uIs (b := !l.isEmpty) h
theorem idx_out {es : List E3} {N x : Nat} (h : x < N) : U.idx 1 (.sl true ((tabOf gOut es N es.length).map rowU)) (x : Int) = some (rowU (ixs gOut es x es.length)) := by
  simp only [U.idx, U.asL, Option.bind_some, elU, Int.natCast_nonneg, if_true, Int.toNat_natCast, List.getElem?_map, tabOf_get h, Option.map_some]
  rfl
def toOf (es : List E3) (i : Int) : Int := (es[i.toNat]?.map (·.t)).getD 0
theorem mem_out {es : List E3} {x : Nat} {i : Int} : i ∈ ixs gOut es x es.length ↔ ∃ (j : Nat) (e : E3), i = (j : Int) ∧ es[j]? = some e ∧ e.f = (x : Int) := by
  rw [ixs_sel, mem_sel]
  constructor
  · rintro ⟨j, h1, h2, h3⟩
    cases he : es[j]? with
    | none => rw [he] at h3; cases h3
    | some e => rw [he] at h3; exact ⟨j, e, h2, he, of_decide_eq_true h3⟩
  · rintro ⟨j, e, h1, h2, h3⟩
    exact ⟨j, (List.getElem?_eq_some_iff.1 h2).1, h1, by rw [h2]; exact decide_eq_true h3⟩
section
variable {N : Nat} {b1 b2 : Bool} {l : List Int} {es : List E3} {u1 : U}
theorem y62_2_is {out : Sx} {x : Nat} (he : es.length ≤ 2000) : ∀ (d k : Nat) (vo : Sx) (st : List Int), k + d = (ixs gOut es x es.length).length → SxI vo st → st.length + d ≤ 1000000 →
    ∃ vo', y62_2 M (openU N u1 b2 es) (rowU (ixs gOut es x es.length)) ((ixs gOut es x es.length).length : Int) (k : Int) out vo = y62_1 M (openU N u1 b2 es) out vo' ∧ SxI vo' (st ++ ((ixs gOut es x es.length).drop k).map (toOf es)) := by
  obtain ⟨v, v0, v1, v2, v3, v4, v5⟩ := openU_fields N u1 b2 es
  generalize hrow : ixs gOut es x es.length = row
  have hmem : ∀ i ∈ row, ∃ (j : Nat) (e : E3), i = (j : Int) ∧ es[j]? = some e := fun i hi => by
    rw [← hrow] at hi
    obtain ⟨j, e, h1, h2, _⟩ := mem_out.1 hi
    exact ⟨j, e, h1, h2⟩
  have hrl : row.length ≤ 2000 := by rw [← hrow]; have := ixs_len gOut es x es.length; omega
  intro d
  induction d with
  | zero =>
    intro k vo st hk ho hn
    rw [y62_2_eq, List.drop_of_length_le (by omega)]
    simp only [show ¬ ((k : Int) < (row.length : Int)) by omega, decide_false, Bool.false_eq_true, if_false]
    exact ⟨vo, rfl, by simpa using ho⟩
  | succ d ih =>
    intro k vo st hk ho hn
    have hlt : k < row.length := by omega
    obtain ⟨j, e, h1, h2⟩ := hmem _ (List.getElem_mem hlt)
    have hto : toOf es row[k] = e.t := by unfold toOf; rw [h1, Int.toNat_natCast, h2]; rfl
    obtain ⟨s', s1, s2⟩ := ho.app e.t (by omega)
    obtain ⟨vo', k1, k2⟩ := ih (k + 1) s' (st ++ [e.t]) (by omega) s2 (by simp; omega)
    rw [y62_2_eq, List.drop_eq_getElem_cons hlt]
    simp only [show ((k : Int) < (row.length : Int)) by omega, decide_true, if_true, idx_rowU (get?_of_lt hlt), Option.bind_some, cell_c, asI_c, v0, v3, h1, idx_uEs h2, cell_uE1, s1, wrap_succ (show k ≤ 1000000000 by omega), k1]
    exact ⟨vo', rfl, by rw [List.map_cons, ← h1, hto]; simpa using k2⟩
theorem reach_lt (hl : ∀ x ∈ l, 0 ≤ x ∧ x < (N : Int)) (hok : ∀ e ∈ es, eOK (N : Int) e = true) {s : Nat} (h : Reach l es s) : s < N := by
  induction h with
  | init h => have := hl _ h; omega
  | step he hf ht _ _ => obtain ⟨_, h5, h6⟩ := eOK_good (hok _ he); omega
theorem y62_1_is (he : es.length ≤ 2000) (hl : ∀ x ∈ l, 0 ≤ x ∧ x < (N : Int)) (hok : ∀ e ∈ es, eOK (N : Int) e = true) : ∀ (m : Nat) (p : Nat → Bool) (st : List Int) (vo : Sx), cnt p N * (es.length + 1) + st.length ≤ m → m ≤ 1000000 → SxI vo st →
    (∀ x ∈ st, ∃ y : Nat, x = (y : Int) ∧ Reach l es y) → (∀ s, s < N → p s = true → Reach l es s) → (∀ s : Nat, (s : Int) ∈ l → p s = true ∨ (s : Int) ∈ st) → (∀ e ∈ es, ∀ s t : Nat, e.f = (s : Int) → e.t = (t : Int) → p s = true → p t = true ∨ e.t ∈ st) →
    ∃ q : Nat → Bool, y62_1 M (openU N u1 b2 es) (uB N p) vo = some (.sl (uB N q)) ∧ ∀ s, s < N → (q s = true ↔ Reach l es s) := by
  obtain ⟨v, v0, v1, v2, v3, v4, v5⟩ := openU_fields N u1 b2 es
  intro m
  induction m with
  | zero =>
    intro p st vo hm hm2 ho i1 i2 i3 i4
    have hst : st = [] := List.length_eq_zero_iff.1 (by omega)
    subst hst
    have hall : ∀ s, Reach l es s → p s = true := fun s h => by
      induction h with
      | init h => exact (i3 _ h).resolve_right (by simp)
      | step he hf ht _ ih => exact (i4 _ he _ _ hf ht ih).resolve_right (by simp)
    rw [y62_1_eq]
    simp only [ho.len, List.length_nil, show ¬ ((0 : Int) < ((0 : Nat) : Int)) by omega, decide_false, Bool.false_eq_true, if_false, uB_scals, if_true]
    exact ⟨p, rfl, fun s hs => ⟨i2 s hs, hall s⟩⟩
  | succ m ih =>
    intro p st vo hm hm2 ho i1 i2 i3 i4
    rcases List.eq_nil_or_concat st with hst | ⟨st', x, hst⟩
    · subst hst
      have hall : ∀ s, Reach l es s → p s = true := fun s h => by
        induction h with
        | init h => exact (i3 _ h).resolve_right (by simp)
        | step he hf ht _ ih => exact (i4 _ he _ _ hf ht ih).resolve_right (by simp)
      rw [y62_1_eq]
      simp only [ho.len, List.length_nil, show ¬ ((0 : Int) < ((0 : Nat) : Int)) by omega, decide_false, Bool.false_eq_true, if_false, uB_scals, if_true]
      exact ⟨p, rfl, fun s hs => ⟨i2 s hs, hall s⟩⟩
    · rw [List.concat_eq_append] at hst
      subst hst
      obtain ⟨y, rfl, hy⟩ := i1 x (by simp)
      have hyN := reach_lt hl hok hy
      have hlen : (st' ++ [(y : Int)]).length = st'.length + 1 := by simp
      rw [hlen] at hm
      obtain ⟨g1, g2⟩ := ho.get (k := st'.length) (by simp)
      have hgl : (st' ++ [(y : Int)])[st'.length]'(by simp) = (y : Int) := by simp
      rw [hgl] at g2
      have hw : IntKind.wrap .i64 ((((st' ++ [(y : Int)]).length : Nat) : Int) - 1) = (st'.length : Int) := by rw [hlen, wrap_in (by omega) (by omega)]; omega
      have hne : vo.es ≠ [] := by intro e; have := ho.len; rw [e, hlen] at this; cases this
      have hb : vo.b = true := by
        cases hb : vo.b with
        | true => rfl
        | false => exact absurd (ho.b hb) hne
      have hsub : subU 1 vo.es 0 (some (st'.length : Int)) = some (st'.map uI) := by
        unfold subU
        rw [if_pos]
        · rw [ho.es]
          simp
        · refine ⟨by omega, by simp, by rw [Option.getD_some, ho.len]; simp; omega, ?_⟩
          rw [ho.es, List.all_eq_true]
          intro u hu
          obtain ⟨z, _, rfl⟩ := List.mem_map.1 hu
          rfl
      have hwin : SxI (Sx.win vo ((0 : Int).toNat) (st'.map uI).length) st' := by
        refine ⟨?_, fun h => ?_, fun _ => ho.z hb⟩
        · simp only [Sx.win, ho.es]
          simp
        · have : vo.b = false := h
          rw [hb] at this; cases this
      rw [y62_1_eq]
      simp only [ho.len, show ((0 : Int) < (((st' ++ [(y : Int)]).length : Nat) : Int)) by rw [hlen]; omega, decide_true, if_true, hw, g1, g2, Option.bind_some, cell_c, asI_c, hb, ho.z hb, and_self, hsub, uB_has hyN, uB_get hyN, asB_c]
      cases hp : p y with
      | true =>
        obtain ⟨q, k1, k2⟩ := ih p st' (Sx.win vo ((0 : Int).toNat) (st'.map uI).length) (by omega) (by omega) hwin (fun z hz => i1 z (by simp [hz])) i2 (fun s hs => by
          rcases i3 s hs with h | h
          · exact .inl h
          · rcases List.mem_append.1 h with h | h
            · exact .inr h
            · have : s = y := by simp at h; omega
              subst this; exact .inl hp) (fun e he' s t h1 h2 h3 => by
          rcases i4 e he' s t h1 h2 h3 with h | h
          · exact .inl h
          · rcases List.mem_append.1 h with h | h
            · exact .inr h
            · have : t = y := by simp at h; omega
              subst this; exact .inl hp)
        simp only [if_true, k1]
        exact ⟨q, rfl, k2⟩
      | false =>
        have hc := cnt_upd hp hyN
        have hrow := ixs_len gOut es y es.length
        have hmul : cnt p N * (es.length + 1) = cnt (upd p y true) N * (es.length + 1) + (es.length + 1) := by rw [← hc, Nat.succ_mul]
        obtain ⟨vo', k1, k2⟩ := y62_2_is (M := M) (N := N) (u1 := u1) (b2 := b2) (out := uB N (upd p y true)) (x := y) he (ixs gOut es y es.length).length 0 (Sx.win vo ((0 : Int).toNat) (st'.map uI).length) st' (by omega) hwin (by omega)
        rw [show ((0 : Nat) : Int) = 0 from rfl] at k1
        rw [List.drop_zero] at k2
        have hT : ∀ z, z ∈ (ixs gOut es y es.length).map (toOf es) ↔ ∃ e ∈ es, e.f = (y : Int) ∧ e.t = z := by
          intro z
          constructor
          · intro hz
            obtain ⟨i, hi, rfl⟩ := List.mem_map.1 hz
            obtain ⟨j, e, h1, h2, h3⟩ := mem_out.1 hi
            exact ⟨e, List.mem_of_getElem? h2, h3, by unfold toOf; rw [h1, Int.toNat_natCast, h2]; rfl⟩
          · rintro ⟨e, he', h1, h2⟩
            obtain ⟨j, hj⟩ := List.getElem?_of_mem he'
            exact List.mem_map.2 ⟨(j : Int), mem_out.2 ⟨j, e, rfl, hj, h1⟩, by unfold toOf; rw [Int.toNat_natCast, hj]; exact h2⟩
        obtain ⟨q, k3, k4⟩ := ih (upd p y true) (st' ++ (ixs gOut es y es.length).map (toOf es)) vo' (by rw [List.length_append, List.length_map]; omega) (by omega) k2 (fun z hz => by
          rcases List.mem_append.1 hz with h | h
          · exact i1 z (by simp [h])
          · obtain ⟨e, he', h1, h2⟩ := (hT z).1 h
            obtain ⟨_, h5, h6⟩ := eOK_good (hok e he')
            obtain ⟨t, ht⟩ := Int.eq_ofNat_of_zero_le h5
            exact ⟨t, by rw [← h2, ht], .step he' h1 ht hy⟩) (fun s hs h => by
          unfold upd at h
          split at h
          · rename_i e; rw [e]; exact hy
          · exact i2 s hs h) (fun s hs => by
          by_cases hsy : s = y
          · exact .inl (by simp [upd, hsy])
          · rcases i3 s hs with h | h
            · exact .inl (by simp [upd, hsy, h])
            · rcases List.mem_append.1 h with h | h
              · exact .inr (List.mem_append_left _ h)
              · exact absurd (by simp at h; omega) hsy) (fun e he' s t h1 h2 h3 => by
          by_cases hsy : s = y
          · exact .inr (List.mem_append_right _ ((hT _).2 ⟨e, he', by rw [h1, hsy], rfl⟩))
          · have h3' : p s = true := by simpa [upd, hsy] using h3
            by_cases hty : t = y
            · exact .inl (by simp [upd, hty])
            · rcases i4 e he' s t h1 h2 h3' with h | h
              · exact .inl (by simp [upd, hty, h])
              · rcases List.mem_append.1 h with h | h
                · exact .inr (List.mem_append_left _ h)
                · exact absurd (by simp at h; omega) hty)
        simp only [Bool.false_eq_true, if_false, uB_has hyN, if_true, uB_put hyN, Option.bind_some, v0, v4, idx_out hyN, cell_rowU, len_rowU, k1, k3]
        exact ⟨q, rfl, k4⟩
theorem y62_is (hN : N ≤ 60) (he : es.length ≤ 2000) (hlen : l.length ≤ 400) (hw : b1 = false → l = []) (hl : ∀ x ∈ l, 0 ≤ x ∧ x < (N : Int)) (hok : ∀ e ∈ es, eOK (N : Int) e = true) :
    ∃ q : Nat → Bool, y62 M (openU N (uIs b1 l) b2 es) = some (.sl (uB N q)) ∧ ∀ s, s < N → (q s = true ↔ Reach l es s) := by
  obtain ⟨v, v0, v1, v2, v3, v4, v5⟩ := openU_fields N (uIs b1 l) b2 es
  obtain ⟨s, s1, s2⟩ := y59_is (M := M) hw (by omega)
  have hb : (⟨true, 1, List.replicate N (.c (.bool false))⟩ : Sx) = uB N fun _ => false := by
    unfold uB
    simp only [Sx.mk.injEq, true_and]
    refine List.ext_getElem? fun j => ?_
    by_cases hj : j < N <;> simp [hj, List.getElem?_replicate]
  have hc := cnt_le (fun _ => false) N
  have hmul : cnt (fun _ => false) N * (es.length + 1) ≤ 60 * 2001 := Nat.mul_le_mul (by omega) (by omega)
  obtain ⟨q, k1, k2⟩ := y62_1_is (M := M) (b2 := b2) (u1 := uIs b1 l) he hl hok 200000 (fun _ => false) l s (by omega) (by omega) s2 (fun x hx => by
    obtain ⟨y, rfl⟩ := Int.eq_ofNat_of_zero_le (hl x hx).1
    exact ⟨y, rfl, .init hx⟩) (fun s _ h => by cases h) (fun s h => .inr h) (fun e _ s t _ _ h => by cases h)
  rw [y62_eq]
  simp only [v0, Option.bind_some, v1, asI_c, show (0 : Int) ≤ (N : Int) ∧ (N : Int) ≤ 2 ^ 36 ∧ 1 = 1 from ⟨by omega, by omega, rfl⟩, and_self, if_true, v2, s1, asSl_sl, Int.toNat_natCast, hb, k1]
  exact ⟨q, rfl, k2⟩
end
end Go.Proofs.Ythjjbkiejkhjfaa.R
