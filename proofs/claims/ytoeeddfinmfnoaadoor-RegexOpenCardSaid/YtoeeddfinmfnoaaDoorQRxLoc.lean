import Derived.Test.YtoeeddfinmfnoaaDoorQRxPure
/- Plain law of chapter 08: what is read does not lean on what stands around it. No program. -/
namespace Go.Proofs.YtoeeddfinmfnoaaDoor
namespace Kt
end Kt
namespace Sp
end Sp
namespace St
end St
namespace Bk
end Bk
open Go Go.RowKit Kt Sp St Bk
open Tr (Nd)
namespace Rx
def sh (d : Nat) (s : S) : S := ⟨s.pos + d, s.err⟩
variable {u t v : List UInt8}
theorem len_loc : (u ++ t ++ v).length = t.length + u.length + v.length := by rw [List.length_append, List.length_append]; omega
theorem get_loc {i : Nat} (h : i < t.length) : (u ++ t ++ v)[i + u.length]? = t[i]? := by
  rw [List.append_assoc, List.getElem?_append_right (by omega), List.getElem?_append_left (by omega)]
  congr 1
  omega
theorem end_loc : (u ++ t ++ v)[t.length + u.length]? = v[0]? := by
  rw [List.getElem?_append_right (by rw [List.length_append]; omega)]
  congr 1
  rw [List.length_append]
  omega
theorem drop_loc {i : Nat} (h : i ≤ t.length) : (u ++ t ++ v).drop (i + u.length) = t.drop i ++ v := by
  rw [List.append_assoc, List.drop_append, List.drop_append]
  rw [List.drop_eq_nil_of_le (by omega : u.length ≤ i + u.length)]
  rw [show i + u.length - u.length = i by omega, show i - t.length = 0 by omega]
  simp
theorem cur_loc {i : Nat} (h : i < t.length) : cur (u ++ t ++ v) (i + u.length) = cur t i := by
  unfold cur
  rw [List.getD_eq_getElem?_getD, List.getD_eq_getElem?_getD, get_loc h]
/-- What stands behind is nothing, or a round bracket. -/
def Vx (v : List UInt8) : Prop := v = [] ∨ ∃ r, v = 41 :: r
theorem more_loc {s : S} (h : s.pos < t.length) : more (u ++ t ++ v) (sh u.length s) = more t s := by
  unfold more sh
  simp only
  rw [len_loc, decide_eq_true h, decide_eq_true (by omega : s.pos + u.length < t.length + u.length + v.length)]
theorem on_in {s : S} {l : List UInt8} (h : s.pos < t.length) : on (u ++ t ++ v) (sh u.length s) l = on t s l := by
  unfold on
  rw [more_loc h]
  unfold sh
  simp only
  rw [cur_loc h]
theorem on_loc (hv : Vx v) {s : S} {l : List UInt8} (h : s.pos ≤ t.length) (hl : l.contains 41 = false) : on (u ++ t ++ v) (sh u.length s) l = on t s l := by
  rcases Nat.lt_or_ge s.pos t.length with h1 | h1
  · exact on_in h1
  · have e : s.pos = t.length := by omega
    have e1 : on t s l = false := by unfold on more; rw [decide_eq_false (by omega : ¬ s.pos < t.length)]; simp
    rw [e1]
    unfold on
    rcases hv with rfl | ⟨r, rfl⟩
    · have : more (u ++ t ++ []) (sh u.length s) = false := by
        have h9 : ¬ (sh u.length s).pos < (u ++ t ++ []).length := by rw [len_loc]; unfold sh; simp; omega
        unfold more
        rw [decide_eq_false h9, Bool.and_false]
      rw [this]
      rfl
    · have : cur (u ++ t ++ 41 :: r) (sh u.length s).pos = 41 := by
        unfold cur sh
        simp only
        rw [e, List.getD_eq_getElem?_getD, end_loc]
        rfl
      rw [this, hl, Bool.and_false]
theorem fail_loc (d : Nat) (s : S) (p e : Nat) : fail (sh d s) (p + d) e = sh d (fail s p e) := by
  unfold fail sh
  split <;> rfl
theorem nx_loc (d : Nat) (s : S) : nx (sh d s) = sh d (nx s) := by
  unfold nx sh
  simp only [S.mk.injEq, and_true]
  omega
theorem numL_loc (hv : Vx v) (frm : Nat) : ∀ (k : Nat) (s : S) (n : Nat), s.pos ≤ t.length → numL (u ++ t ++ v) (frm + u.length) k (sh u.length s) n = (sh u.length (numL t frm k s n).1, (numL t frm k s n).2)
  | 0, s, n, h => rfl
  | k + 1, s, n, h => by
    unfold numL
    rw [on_loc hv h (by decide)]
    by_cases h1 : on t s figs = true
    · rw [if_pos h1, if_pos h1]
      have h2 := (on_lt h1).2
      have e : (sh u.length s).pos - (frm + u.length) = s.pos - frm := by unfold sh; simp only; omega
      rw [e]
      by_cases h3 : s.pos - frm = 2
      · rw [if_pos h3, if_pos h3, fail_loc]
      · rw [if_neg h3, if_neg h3, nx_loc]
        have e2 : cur (u ++ t ++ v) (sh u.length s).pos = cur t s.pos := cur_loc h2
        rw [e2]
        exact numL_loc hv frm k (nx s) _ (nx_adv (on_lt h1)).le
    · rw [if_neg h1, if_neg h1]
theorem number_loc (hv : Vx v) {s : S} (h : s.pos ≤ t.length) : number (u ++ t ++ v) (sh u.length s) = ((number t s).1, sh u.length (number t s).2) := by
  unfold number
  have e : (sh u.length s).pos = s.pos + u.length := rfl
  rw [e, numL_loc hv s.pos 4 s 0 h]
  simp only
  split
  · rfl
  · split
    · rw [fail_loc]
    · rfl
theorem bEnd_loc (_hv : Vx v) {last least : Nat} {most : Int} {s : S} (he : (bEnd t last least most s).err = 0) : bEnd (u ++ t ++ v) (last + u.length) least most (sh u.length s) = sh u.length (bEnd t last least most s) := by
  unfold bEnd at he ⊢
  by_cases h1 : s.err = 0 ∧ more t s = false
  · rw [if_pos h1] at he
    exact absurd he (fail_err (by decide))
  · rw [if_neg h1] at he ⊢
    by_cases h2 : on t s [125] = false
    · rw [if_pos h2] at he
      exact absurd he (fail_err (by decide))
    · rw [if_neg h2] at he ⊢
      have h3 : on t s [125] = true := Bool.of_not_eq_false h2
      have h4 := on_lt h3
      have hm : more t s = true := by unfold more; simp [h4.1, h4.2]
      rw [more_loc h4.2, on_in h4.2]
      rw [if_neg (by rw [hm]; simp), if_neg h2, nx_loc, fail_loc]
      split <;> rfl
theorem bounds_loc (hv : Vx v) {s : S} (h : s.err = 0 ∧ s.pos < t.length) (he : (bounds t s).2.2.err = 0) : bounds (u ++ t ++ v) (sh u.length s) = ((bounds t s).1, (bounds t s).2.1, sh u.length (bounds t s).2.2) := by
  have h0 := nx_adv h
  have h1 := number_adv h0.le
  have hn : number (u ++ t ++ v) (nx (sh u.length s)) = ((number t (nx s)).1, sh u.length (number t (nx s)).2) := by rw [nx_loc, number_loc hv h0.le]
  unfold bounds at he ⊢
  simp only at he ⊢
  rw [hn]
  simp only
  rw [on_loc hv h1.le (by decide)]
  by_cases h2 : on t (number t (nx s)).2 [44] = true
  · rw [if_pos h2] at he ⊢
    rw [if_pos h2]
    have h3 := nx_adv (on_lt h2)
    rw [nx_loc, on_loc hv h3.le (by decide)]
    by_cases h4 : on t (nx (number t (nx s)).2) figs = true
    · rw [if_pos h4] at he ⊢
      rw [if_pos h4, number_loc hv h3.le]
      simp only at he ⊢
      have := bEnd_loc (u := u) hv he
      rw [← this]
      rfl
    · rw [if_neg h4] at he ⊢
      rw [if_neg h4]
      simp only at he ⊢
      have := bEnd_loc (u := u) hv he
      rw [← this, nx_loc]
      rfl
  · rw [if_neg h2] at he ⊢
    rw [if_neg h2]
    simp only at he ⊢
    have := bEnd_loc (u := u) hv he
    rw [← this, nx_loc]
    rfl
theorem bounded_loc (hv : Vx v) {s : S} (h : s.pos ≤ t.length) : bounded (u ++ t ++ v) (sh u.length s) = bounded t s := by
  unfold bounded
  rw [on_loc hv h (by decide)]
  by_cases h1 : on t s [123] = true
  · have h2 := (on_lt h1).2
    rw [h1, Bool.true_and, Bool.true_and]
    have e : (sh u.length s).pos + 1 = (s.pos + 1) + u.length := by unfold sh; simp only; omega
    rw [e, len_loc]
    rcases Nat.lt_or_ge (s.pos + 1) t.length with h3 | h3
    · rw [decide_eq_true h3, decide_eq_true (by omega), cur_loc h3]
    · rw [decide_eq_false (by omega : ¬ s.pos + 1 < t.length), Bool.false_and]
      have e2 : s.pos + 1 = t.length := by omega
      rcases hv with rfl | ⟨r, rfl⟩
      · rw [decide_eq_false (by simp; omega), Bool.false_and]
      · have : cur (u ++ t ++ 41 :: r) (s.pos + 1 + u.length) = 41 := by
          unfold cur
          rw [e2, List.getD_eq_getElem?_getD, end_loc]
          rfl
        rw [this]
        have : figs.contains (41 : UInt8) = false := by decide
        rw [this, Bool.and_false]
  · rw [Bool.eq_false_iff.2 h1, Bool.false_and, Bool.false_and]
theorem index_app (c : UInt8) (w : List UInt8) : ∀ l : List UInt8, ¬ Lib.indexByte l c < 0 → Lib.indexByte (l ++ w) c = Lib.indexByte l c
  | [], h => absurd (show Lib.indexByte [] c < 0 by unfold Lib.indexByte; decide) h
  | x :: l, h => by
    rw [List.cons_append]
    unfold Lib.indexByte at h ⊢
    by_cases hx : (x == c) = true
    · rw [if_pos hx, if_pos hx]
    · rw [if_neg hx] at h
      rw [if_neg hx, if_neg hx]
      by_cases h2 : (Lib.indexByte l c == -1) = true
      · rw [if_pos h2] at h
        exact absurd (by decide) h
      · have h3 := Lib.indexByte_ge l c
        have h4 : Lib.indexByte l c ≠ -1 := by simpa using h2
        rw [index_app c w l (by omega)]
theorem name_loc {s : S} (h : s.err = 0 ∧ s.pos < t.length) (he : (name t s).2.err = 0) : name (u ++ t ++ v) (sh u.length s) = ((name t s).1, sh u.length (name t s).2) := by
  have e : (sh u.length s).pos + 1 = (s.pos + 1) + u.length := by unfold sh; simp only; omega
  unfold name at he ⊢
  by_cases h1 : brace t (s.pos + 1) < 0
  · rw [if_pos h1] at he
    exact absurd he (fail_err (by decide))
  · rw [if_neg h1] at he ⊢
    have h2 := brace_lt h1
    have hb : brace (u ++ t ++ v) ((sh u.length s).pos + 1) = brace t (s.pos + 1) := by
      rw [e]
      unfold brace
      rw [drop_loc (by omega)]
      exact index_app 125 v _ h1
    rw [hb, if_neg h1]
    have ht : ((u ++ t ++ v).drop ((sh u.length s).pos + 1)).take (brace t (s.pos + 1)).toNat = (t.drop (s.pos + 1)).take (brace t (s.pos + 1)).toNat := by
      rw [e, drop_loc (by omega), List.take_append_of_le_length (by rw [List.length_drop]; omega)]
    rw [ht]
    split
    · next h3 =>
      rw [if_pos h3] at he
      exact absurd he (fail_err (by decide))
    · simp only [Prod.mk.injEq, true_and]
      unfold sh
      simp only [S.mk.injEq, and_true]
      omega
theorem rdt_loc (d n n' i : Nat) (l w : List UInt8) (he : (rdt n i l).2.2 = 0) : rdt n' (i + d) (l ++ w) = ((rdt n i l).1, (rdt n i l).2.1 + d, 0) := by
  match l, he with
  | [], he => simp [rdt] at he
  | [c], he =>
    by_cases hc : c = 92
    · subst hc; simp [rdt] at he
    · simp [rdt, hc]; omega
  | c :: e :: r, he =>
    by_cases hc : c = 92
    · subst hc
      by_cases h1 : e = 110
      · simp [rdt, h1]; omega
      by_cases h2 : e = 116
      · simp [rdt, h2]; omega
      by_cases h3 : e = 114
      · simp [rdt, h3]; omega
      by_cases h4 : e = 115
      · simp [rdt, h4]; omega
      by_cases h5 : e = 120
      · subst h5
        match r, he with
        | [], he => simp [rdt] at he
        | [x], he =>
          by_cases hx : fig x < 0
          · simp [rdt, hx] at he
          · simp [rdt, hx] at he
        | x :: y :: z, he =>
          by_cases hx : fig x < 0
          · simp [rdt, hx] at he
          · by_cases hy : fig y < 0
            · simp [rdt, hx, hy] at he
            · simp [rdt, hx, hy]; omega
      · by_cases hm : Sp.mark e = true
        · simp [rdt, h1, h2, h3, h4, h5, hm]; omega
        · simp [rdt, h1, h2, h3, h4, h5, hm] at he
    · simp [rdt, hc]; omega
theorem rd_loc {i : Nat} (h : i ≤ t.length) (he : (rd t i).2.2 = 0) : rd (u ++ t ++ v) (i + u.length) = ((rd t i).1, (rd t i).2.1 + u.length, 0) := by
  unfold rd at he ⊢
  rw [drop_loc h]
  exact rdt_loc _ _ _ _ _ _ he
theorem one_loc {i : Nat} (h : i ≤ t.length) (he : (one t i).2.2 = 0) : one (u ++ t ++ v) (i + u.length) = ((one t i).1, (one t i).2.1 + u.length, 0) := by
  rcases Nat.lt_or_ge i t.length with hi | hi
  · have hg : (u ++ t ++ v)[i + u.length]? = some t[i] := by rw [get_loc hi, List.getElem?_eq_getElem hi]
    unfold one at he ⊢
    rw [hg]
    rw [List.getElem?_eq_getElem hi] at he ⊢
    simp only at he ⊢
    by_cases hb : bare t[i] = true
    · rw [if_pos hb] at he
      simp at he
    · rw [if_neg hb] at he
      rw [if_neg hb, if_neg hb]
      exact rd_loc h he
  · exfalso
    unfold one at he
    rw [List.getElem?_eq_none hi] at he
    simp only at he
    unfold rd at he
    rw [List.drop_eq_nil_of_le hi] at he
    simp [rdt] at he
theorem at45 {i : Nat} (hv : Vx v) (h : i ≤ t.length) (c : UInt8) (hc : c ≠ 41) : ((u ++ t ++ v)[i + u.length]? = some c) = (t[i]? = some c) := by
  rcases Nat.lt_or_ge i t.length with h1 | h1
  · rw [get_loc h1]
  · have e : i = t.length := by omega
    rw [e, end_loc, List.getElem?_eq_none (Nat.le_refl _)]
    rcases hv with rfl | ⟨r, rfl⟩
    · rfl
    · simp only [List.getElem?_cons_zero, Option.some.injEq, reduceCtorEq, eq_iff_iff, iff_false]
      exact fun h => hc h.symm
theorem itm_loc (hv : Vx v) {i : Nat} (h : i ≤ t.length) (he : (itm t i).2.2.2 = 0) : itm (u ++ t ++ v) (i + u.length) = ((itm t i).1, (itm t i).2.1, (itm t i).2.2.1 + u.length, 0) := by
  have a := one_go t i h
  unfold itm at he ⊢
  by_cases h1 : (one t i).2.2 ≠ 0
  · rw [if_pos h1] at he
    exact absurd he h1
  · have h1' : (one t i).2.2 = 0 := Classical.not_not.1 h1
    rw [if_neg h1] at he
    rw [one_loc h h1', if_neg (by simp), if_neg h1]
    simp only
    simp only [at45 hv a.2.2.1 45 (by decide)]
    by_cases h2 : t[(one t i).2.1]? = some 45
    · rw [if_pos h2] at he
      rw [if_pos h2, if_pos h2]
      have hl : (one t i).2.1 + 1 ≤ t.length := by
        obtain ⟨hl, _⟩ := List.getElem?_eq_some_iff.1 h2
        omega
      have e2 : (one t i).2.1 + u.length + 1 = ((one t i).2.1 + 1) + u.length := by omega
      by_cases h3 : (one t ((one t i).2.1 + 1)).2.2 ≠ 0
      · rw [if_pos h3] at he
        exact absurd he h3
      · have h3' : (one t ((one t i).2.1 + 1)).2.2 = 0 := Classical.not_not.1 h3
        rw [if_neg h3] at he
        rw [e2, one_loc hl h3', if_neg (by simp), if_neg h3]
        simp only
        by_cases h4 : (one t ((one t i).2.1 + 1)).1 < (one t i).1
        · rw [if_pos h4] at he
          simp at he
        · rw [if_neg h4, if_neg h4]
    · rw [if_neg h2, if_neg h2]
theorem lp_loc (hv : Vx v) : ∀ (k k' : Nat) (f : Nat → Bool) (i : Nat) (first : Bool), i ≤ t.length → t.length - i < k → t.length - i < k' → (lp t k f i first).2.2 = 0 → lp (u ++ t ++ v) k' f (i + u.length) first = ((lp t k f i first).1, (lp t k f i first).2.1 + u.length, 0)
  | 0, _, _, _, _, _, h, _, _ => by omega
  | _, 0, _, _, _, _, _, h, _ => by omega
  | k + 1, k' + 1, f, i, first, h, hk, hk', he => by
    have a := itm_go t i h
    unfold lp at he ⊢
    simp only [at45 hv h 93 (by decide)]
    by_cases h1 : first = false ∧ t[i]? = some 93
    · rw [if_pos h1, if_pos h1]
      simp only [Prod.mk.injEq, true_and, and_true]
      omega
    · rw [if_neg h1] at he
      rw [if_neg h1, if_neg h1]
      by_cases h2 : (itm t i).2.2.2 ≠ 0
      · rw [if_pos h2] at he
        exact absurd he h2
      · have h2' : (itm t i).2.2.2 = 0 := Classical.not_not.1 h2
        rw [if_neg h2] at he
        rw [itm_loc hv h h2', if_neg (by simp), if_neg h2]
        have h3 := a.2.2.2.1 h2'
        have h4 := a.2.2.1
        exact lp_loc hv k k' _ _ _ h4 (by omega) (by omega) he
theorem brd_loc (hv : Vx v) {i : Nat} (h : i < t.length) (he : (brd t i).2.2 = 0) : brd (u ++ t ++ v) (i + u.length) = ((brd t i).1, (brd t i).2.1 + u.length, 0) := by
  unfold brd at he ⊢
  rw [if_neg (by omega : ¬ t.length ≤ i)] at he
  rw [if_neg (by omega : ¬ t.length ≤ i), if_neg (by rw [len_loc]; omega)]
  rw [get_loc h]
  by_cases h1 : t[i]? ≠ some 91
  · rw [if_pos h1] at he
    simp at he
  · rw [if_neg h1] at he
    rw [if_neg h1, if_neg h1]
    have e1 : i + u.length + 1 = (i + 1) + u.length := by omega
    have e2 : i + u.length + 2 = (i + 2) + u.length := by omega
    simp only [e1, e2, at45 hv (by omega : i + 1 ≤ t.length) 94 (by decide)]
    by_cases h2 : t[i + 1]? = some 94
    · have hl : i + 2 ≤ t.length := by
        obtain ⟨hl, _⟩ := List.getElem?_eq_some_iff.1 h2
        omega
      rw [if_pos h2] at he
      rw [if_pos h2, if_pos h2]
      by_cases h3 : (lp t (t.length + 1) none' (i + 2) true).2.2 ≠ 0
      · rw [if_pos h3] at he
        exact absurd he h3
      · have h3' := Classical.not_not.1 h3
        rw [lp_loc hv (t.length + 1) ((u ++ t ++ v).length + 1) none' (i + 2) true hl (by omega) (by rw [len_loc]; omega) h3', if_neg (by simp), if_neg h3]
    · rw [if_neg h2] at he
      rw [if_neg h2, if_neg h2]
      exact lp_loc hv _ _ _ _ _ (by omega) (by omega) (by rw [len_loc]; omega) he
theorem cls_loc {s : S} (h : s.pos ≤ t.length) (he : (cls t s).err = 0) : cls (u ++ t ++ v) (sh u.length s) = sh u.length (cls t s) := by
  unfold cls at he ⊢
  by_cases h1 : s.err = 0 ∧ on t s [41] = false
  · rw [if_pos h1] at he
    exact absurd he (fail_err (by decide))
  · rw [if_neg h1] at he ⊢
    have hs : s.err = 0 := (takeS_adv h).on he |>.1
    have h2 : on t s [41] = true := by
      cases h3 : on t s [41] with
      | true => rfl
      | false => exact absurd ⟨hs, h3⟩ h1
    have h3 := (on_lt h2).2
    unfold takeS
    rw [on_in h3, if_neg (by rw [h2]; simp), if_pos h2, if_pos h2, nx_loc]
/-- What an expression's reader must bring along. -/
structure Ex (u t v : List UInt8) (p : Nat) (ex ex' : S → Nd × S) : Prop where
  adv : ∀ s, s.pos ≤ t.length → Adv t s (ex s).2
  loc : ∀ s, s.pos ≤ t.length → p < s.pos → (ex s).2.err = 0 → ex' (sh u.length s) = ((ex s).1, sh u.length (ex s).2)
theorem atm_loc (hv : Vx v) {ex ex' : S → Nd × S} {p : Nat} (hx : Ex u t v p ex ex') {s : S} (h : s.err = 0 ∧ s.pos < t.length) (hp : p ≤ s.pos) (he : (atm ex t s).2.err = 0) : atm ex' (u ++ t ++ v) (sh u.length s) = ((atm ex t s).1, sh u.length (atm ex t s).2) := by
  have h0 := nx_adv h
  unfold atm at he ⊢
  rw [on_in h.2, on_in h.2, on_in h.2, on_in h.2, on_in h.2]
  by_cases h1 : on t s [40] = true
  · rw [if_pos h1] at he
    rw [if_pos h1, if_pos h1]
    simp only at he ⊢
    have ha := hx.adv (nx s) h0.le
    have hc := (cls_adv (t := t) ha.le).on he
    rw [nx_loc, hx.loc (nx s) h0.le (by show p < s.pos + 1; omega) hc.1]
    simp only
    rw [cls_loc ha.le he]
  · rw [if_neg h1] at he
    rw [if_neg h1, if_neg h1]
    by_cases h2 : on t s [91] = true
    · rw [if_pos h2] at he
      rw [if_pos h2, if_pos h2]
      simp only at he
      have e : (sh u.length s).pos = s.pos + u.length := rfl
      rw [e, brd_loc hv h.2 he]
      simp only [Prod.mk.injEq, true_and]
      unfold sh
      simp only [S.mk.injEq, true_and]
      exact he.symm
    · rw [if_neg h2] at he
      rw [if_neg h2, if_neg h2]
      by_cases h3 : on t s [123] = true
      · rw [if_pos h3] at he
        rw [if_pos h3, if_pos h3]
        exact name_loc h he
      · rw [if_neg h3] at he
        rw [if_neg h3, if_neg h3]
        by_cases h4 : on t s [46] = true
        · rw [if_pos h4, if_pos h4, nx_loc]
        · rw [if_neg h4] at he
          rw [if_neg h4, if_neg h4]
          by_cases h5 : on t s never = true
          · rw [if_pos h5] at he
            exact absurd he (fail_err (by decide))
          · rw [if_neg h5] at he
            rw [if_neg h5, if_neg h5]
            simp only at he
            have e : (sh u.length s).pos = s.pos + u.length := rfl
            rw [e, rd_loc (by omega) he]
            simp only [Prod.mk.injEq, true_and]
            unfold sh
            simp only [S.mk.injEq, true_and]
            exact he.symm
theorem pcL_loc (hv : Vx v) : ∀ (k k' : Nat) (s : S) (n : Nd), s.pos ≤ t.length → t.length - s.pos < k → t.length - s.pos < k' → (pcL t k s n).2.err = 0 → pcL (u ++ t ++ v) k' (sh u.length s) n = ((pcL t k s n).1, sh u.length (pcL t k s n).2)
  | 0, _, _, _, _, h, _, _ => by omega
  | _, 0, _, _, _, _, h, _ => by omega
  | k + 1, k' + 1, s, n, h, hk, hk', he => by
    unfold pcL at he ⊢
    rw [on_loc hv h (by decide), on_loc hv h (by decide), on_loc hv h (by decide), bounded_loc hv h]
    have hn : ∀ c, on t s [c] = true → (nx s).pos ≤ t.length ∧ t.length - (nx s).pos < k ∧ t.length - (nx s).pos < k' := fun c hc => by
      have := (on_lt hc).2
      have e : (nx s).pos = s.pos + 1 := rfl
      omega
    by_cases h1 : on t s [42] = true
    · rw [if_pos h1] at he
      rw [if_pos h1, if_pos h1, nx_loc]
      exact pcL_loc hv k k' _ _ (hn _ h1).1 (hn _ h1).2.1 (hn _ h1).2.2 he
    · rw [if_neg h1] at he
      rw [if_neg h1, if_neg h1]
      by_cases h2 : on t s [43] = true
      · rw [if_pos h2] at he
        rw [if_pos h2, if_pos h2, nx_loc]
        exact pcL_loc hv k k' _ _ (hn _ h2).1 (hn _ h2).2.1 (hn _ h2).2.2 he
      · rw [if_neg h2] at he
        rw [if_neg h2, if_neg h2]
        by_cases h3 : on t s [63] = true
        · rw [if_pos h3] at he
          rw [if_pos h3, if_pos h3, nx_loc]
          exact pcL_loc hv k k' _ _ (hn _ h3).1 (hn _ h3).2.1 (hn _ h3).2.2 he
        · rw [if_neg h3] at he
          rw [if_neg h3, if_neg h3]
          by_cases h4 : bounded t s = true
          · rw [if_pos h4] at he
            rw [if_pos h4, if_pos h4]
            have hs : s.err = 0 ∧ s.pos < t.length := by
              unfold bounded at h4
              rw [Bool.and_eq_true] at h4
              exact on_lt h4.1
            have hb := bounds_adv hs
            have hbe := (pcL_adv (t := t) k _ (rep ((bounds t s).1 : Int) (bounds t s).2.1 n) hb.le).on he
            have hbp := (hb.on hbe.1).2
            have hble := hb.le
            rw [bounds_loc hv hs hbe.1]
            exact pcL_loc hv k k' _ _ hb.le (by omega) (by omega) he
          · rw [if_neg h4, if_neg h4]
theorem pce_loc (hv : Vx v) {ex ex' : S → Nd × S} {p : Nat} (hx : Ex u t v p ex ex') {s : S} (h : s.err = 0 ∧ s.pos < t.length) (hp : p ≤ s.pos) (he : (pce ex t s).2.err = 0) : pce ex' (u ++ t ++ v) (sh u.length s) = ((pce ex t s).1, sh u.length (pce ex t s).2) := by
  have ha := atm_adv hx.adv h
  unfold pce at he ⊢
  have hc := (pcL_adv (t := t) (t.length + 1) _ (atm ex t s).1 ha.le).on he
  rw [atm_loc hv hx h hp hc.1]
  exact pcL_loc hv _ _ _ _ ha.le (by omega) (by rw [len_loc]; omega) he
theorem go_loc (hv : Vx v) {s : S} (h : s.pos ≤ t.length) : (more (u ++ t ++ v) (sh u.length s) && !on (u ++ t ++ v) (sh u.length s) [124, 41]) = (more t s && !on t s [124, 41]) := by
  rcases Nat.lt_or_ge s.pos t.length with h1 | h1
  · rw [more_loc h1, on_in h1]
  · have e : s.pos = t.length := by omega
    have e1 : more t s = false := by unfold more; rw [decide_eq_false (by omega : ¬ s.pos < t.length), Bool.and_false]
    rw [e1, Bool.false_and]
    cases hm : more (u ++ t ++ v) (sh u.length s) with
    | false => rfl
    | true =>
      rcases hv with rfl | ⟨r, rfl⟩
      · have := (more_lt hm).2
        unfold sh at this
        simp only at this
        rw [len_loc] at this
        simp at this
        omega
      · have : cur (u ++ t ++ 41 :: r) (sh u.length s).pos = 41 := by
          unfold cur sh
          simp only
          rw [e, List.getD_eq_getElem?_getD, end_loc]
          rfl
        unfold on
        rw [hm, this]
        rfl
theorem brL_loc (hv : Vx v) {ex ex' : S → Nd × S} {p : Nat} (hx : Ex u t v p ex ex') : ∀ (k k' : Nat) (s : S) (l : List Nd), s.pos ≤ t.length → p ≤ s.pos → t.length - s.pos < k → t.length - s.pos < k' → (brL ex t k s l).2.err = 0 → brL ex' (u ++ t ++ v) k' (sh u.length s) l = ((brL ex t k s l).1, sh u.length (brL ex t k s l).2)
  | 0, _, _, _, _, _, h, _, _ => by omega
  | _, 0, _, _, _, _, _, h, _ => by omega
  | k + 1, k' + 1, s, l, h, hp, hk, hk', he => by
    unfold brL at he ⊢
    rw [go_loc hv h]
    by_cases h1 : (more t s && !on t s [124, 41]) = true
    · rw [if_pos h1] at he
      rw [if_pos h1, if_pos h1]
      have hs := more_lt (Bool.and_eq_true_iff.1 h1).1
      have ha := pce_adv hx.adv hs
      have hc := (brL_adv hx.adv k _ (l ++ [(pce ex t s).1]) ha.le).on he
      have hpp := (ha.on hc.1).2
      have hle := ha.le
      rw [pce_loc hv hx hs hp hc.1]
      exact brL_loc hv hx k k' _ _ ha.le (by omega) (by omega) (by omega) he
    · rw [if_neg h1, if_neg h1]
theorem brn_loc (hv : Vx v) {ex ex' : S → Nd × S} {p : Nat} (hx : Ex u t v p ex ex') {s : S} (h : s.pos ≤ t.length) (hp : p ≤ s.pos) (he : (brn ex t s).2.err = 0) : brn ex' (u ++ t ++ v) (sh u.length s) = ((brn ex t s).1, sh u.length (brn ex t s).2) := by
  unfold brn at he ⊢
  rw [brL_loc hv hx (t.length + 1) ((u ++ t ++ v).length + 1) s [] h hp (by omega) (by rw [len_loc]; omega) he]
theorem exL_loc (hv : Vx v) {ex ex' : S → Nd × S} {p : Nat} (hx : Ex u t v p ex ex') : ∀ (k k' : Nat) (s : S) (l : List Nd), s.pos ≤ t.length → p ≤ s.pos → t.length - s.pos < k → t.length - s.pos < k' → (exL ex t k s l).2.err = 0 → exL ex' (u ++ t ++ v) k' (sh u.length s) l = ((exL ex t k s l).1, sh u.length (exL ex t k s l).2)
  | 0, _, _, _, _, _, h, _, _ => by omega
  | _, 0, _, _, _, _, _, h, _ => by omega
  | k + 1, k' + 1, s, l, h, hp, hk, hk', he => by
    unfold exL at he ⊢
    rw [on_loc hv h (by decide)]
    by_cases h1 : on t s [124] = true
    · rw [if_pos h1] at he
      rw [if_pos h1, if_pos h1]
      have hs := nx_adv (on_lt h1)
      have ha := brn_adv hx.adv hs.le
      have hc := (exL_adv hx.adv k _ (l ++ [(brn ex t (nx s)).1]) ha.le).on he
      have hpp := (ha.on hc.1).2
      have hle := ha.le
      have hn : (nx s).pos = s.pos + 1 := rfl
      have hlt := (on_lt h1).2
      rw [nx_loc, brn_loc hv hx hs.le (by omega) hc.1]
      exact exL_loc hv hx k k' _ _ ha.le (by omega) (by omega) (by omega) he
    · rw [if_neg h1, if_neg h1]
theorem expr1_loc (hv : Vx v) {ex ex' : S → Nd × S} {s : S} (hx : Ex u t v s.pos ex ex') (h : s.pos ≤ t.length) (he : (expr1 ex t s).2.err = 0) : expr1 ex' (u ++ t ++ v) (sh u.length s) = ((expr1 ex t s).1, sh u.length (expr1 ex t s).2) := by
  unfold expr1 at he ⊢
  have ha := brn_adv hx.adv h
  have hc := (exL_adv hx.adv (t.length + 1) _ [(brn ex t s).1] ha.le).on he
  have hpp := (ha.on hc.1).2
  have hle := ha.le
  rw [brn_loc hv hx h (Nat.le_refl _) hc.1]
  simp only
  rw [exL_loc hv hx (t.length + 1) ((u ++ t ++ v).length + 1) _ _ ha.le hpp (by omega) (by rw [len_loc]; omega) he]
theorem expr_loc (hv : Vx v) : ∀ (k k' : Nat) (s : S), s.pos ≤ t.length → t.length - s.pos < k → t.length - s.pos < k' → (expr t k s).2.err = 0 → expr (u ++ t ++ v) k' (sh u.length s) = ((expr t k s).1, sh u.length (expr t k s).2)
  | 0, _, _, _, h, _, _ => by omega
  | _, 0, _, _, _, h, _ => by omega
  | k + 1, k' + 1, s, h, hk, hk', he => by
    refine expr1_loc hv ⟨expr_adv k, fun s1 h1 hp h2 => expr_loc hv k k' s1 h1 (by omega) (by omega) h2⟩ h he
theorem on_no {t : List UInt8} {s : S} (h : more t s = false) (l : List UInt8) : on t s l = false := by unfold on; rw [h, Bool.false_and]
/-- A text that is one atom. -/
theorem expr_one {T : List UInt8} {k : Nat} {n : Nd} {st : S} (h0 : more T ⟨0, 0⟩ = true) (h1 : on T ⟨0, 0⟩ [124, 41] = false) (h : atm (expr T k) T ⟨0, 0⟩ = (n, st)) (hm : more T st = false) : expr T (k + 1) ⟨0, 0⟩ = (n, st) := by
  have hl : 0 < T.length := (more_lt h0).2
  have hp : pce (expr T k) T ⟨0, 0⟩ = (n, st) := by
    unfold pce
    rw [h]
    unfold pcL
    have hb : bounded T st = false := by unfold bounded; rw [on_no hm, Bool.false_and]
    rw [on_no hm, on_no hm, on_no hm, hb]
    rfl
  have hb : brL (expr T k) T (T.length + 1) ⟨0, 0⟩ [] = ([n], st) := by
    obtain ⟨q, hq⟩ : ∃ q, T.length = q + 1 := ⟨T.length - 1, by omega⟩
    unfold brL
    rw [h0, h1, hp, hq]
    simp only [Bool.not_false, Bool.and_self, if_true]
    unfold brL
    rw [hm]
    rfl
  have hn : brn (expr T k) T ⟨0, 0⟩ = (n, st) := by
    unfold brn
    rw [hb]
    rfl
  show expr1 (expr T k) T ⟨0, 0⟩ = (n, st)
  unfold expr1
  rw [hn]
  simp only
  unfold exL
  rw [on_no hm]
  rfl
theorem parse_good {t : List UInt8} (h : (parse t).2.2 = 0) : (expr t (t.length + 1) ⟨0, 0⟩).2 = ⟨t.length, 0⟩ ∧ (parse t).1 = (expr t (t.length + 1) ⟨0, 0⟩).1 ∧ (parse t).2.1 = t.length ∧ Tr.deep (Tr.walk (expr t (t.length + 1) ⟨0, 0⟩).1) ≤ 24 ∧ (Tr.walk (expr t (t.length + 1) ⟨0, 0⟩).1).length ≤ 600 := by
  have ha := expr_adv (t := t) (t.length + 1) ⟨0, 0⟩ (Nat.zero_le _)
  unfold parse at h ⊢
  simp only at h ⊢
  generalize expr t (t.length + 1) ⟨0, 0⟩ = q at *
  obtain ⟨n, st⟩ := q
  simp only at h ha ⊢
  by_cases h1 : (fin t n st).err ≠ 0
  · rw [if_pos h1] at h
    exact absurd h h1
  · rw [if_neg h1]
    have h2 := Classical.not_not.1 h1
    unfold fin at h2
    split at h2
    · exact absurd h2 (fail_err (by decide))
    · next hm =>
      split at h2
      · next he => exact absurd h2 he
      · next he =>
        have he' := Classical.not_not.1 he
        split at h2
        · simp at h2
        · next hd =>
          split at h2
          · simp at h2
          · next hc =>
            have hp : st.pos = t.length := by
              have hm' : more t st = false := Bool.eq_false_iff.2 hm
              unfold more at hm'
              rw [he'] at hm'
              simp at hm'
              have := ha.le
              omega
            obtain ⟨a, b⟩ := st
            simp only at hp he'
            subst hp he'
            exact ⟨rfl, rfl, rfl, by omega, by omega⟩
/-- A text in round brackets reads as it; cut off within, it ends too soon. -/
theorem parse_open {t : List UInt8} (h : (parse t).2.2 = 0) : parse ([40] ++ t ++ [41]) = ((parse t).1, t.length + 2, 0) ∧ (parse ([40] ++ t ++ [])).2 = (t.length + 1, 2) := by
  obtain ⟨h1, h2, _, h3, h4⟩ := parse_good h
  have hs : (⟨1, 0⟩ : S) = sh [(40 : UInt8)].length ⟨0, 0⟩ := rfl
  constructor
  · have hv : Vx [(41 : UInt8)] := .inr ⟨[], rfl⟩
    have hl : ([(40 : UInt8)] ++ t ++ [41]).length = t.length + 2 := by simp
    have he := expr_loc (u := [40]) (t := t) hv (t.length + 1) (t.length + 2) ⟨0, 0⟩ (Nat.zero_le _) (by simp only; omega) (by simp only; omega) (by rw [h1])
    rw [← hs, h1] at he
    have hc : cur ([(40 : UInt8)] ++ t ++ [41]) (t.length + 1) = 41 := by
      unfold cur
      rw [List.getD_eq_getElem?_getD, show t.length + 1 = t.length + [(40 : UInt8)].length from rfl, end_loc]
      rfl
    have ha : atm (expr ([40] ++ t ++ [41]) (t.length + 2)) ([40] ++ t ++ [41]) ⟨0, 0⟩ = ((expr t (t.length + 1) ⟨0, 0⟩).1, ⟨t.length + 2, 0⟩) := by
      unfold atm
      have h40 : on ([(40 : UInt8)] ++ t ++ [41]) ⟨0, 0⟩ [40] = true := by unfold on more; rw [hl]; simp [cur]
      rw [if_pos h40]
      have hx : nx ⟨0, 0⟩ = ⟨1, 0⟩ := rfl
      rw [hx, he]
      simp only [Prod.mk.injEq, true_and]
      have h41 : on ([(40 : UInt8)] ++ t ++ [41]) (sh [(40 : UInt8)].length ⟨t.length, 0⟩) [41] = true := by
        unfold on more sh
        simp only [hl, List.length_singleton]
        rw [hc]
        simp
      unfold cls takeS
      rw [h41, if_neg (by simp), if_pos rfl]
      rfl
    have hm : more ([(40 : UInt8)] ++ t ++ [41]) ⟨t.length + 2, 0⟩ = false := by unfold more; rw [hl]; simp
    have hx := expr_one (by unfold more; rw [hl]; simp) (by unfold on more cur; simp) ha hm
    unfold parse
    simp only
    rw [hl, hx]
    have hf : fin ([(40 : UInt8)] ++ t ++ [41]) (expr t (t.length + 1) ⟨0, 0⟩).1 ⟨t.length + 2, 0⟩ = ⟨t.length + 2, 0⟩ := by
      unfold fin
      rw [hm, if_neg (by simp), if_neg (by simp), if_neg (by omega), if_neg (by omega)]
    simp only
    rw [hf, if_neg (by simp)]
    rw [show (if (fin t (expr t (t.length + 1) ⟨0, 0⟩).1 (expr t (t.length + 1) ⟨0, 0⟩).2).err ≠ 0 then (zero, (fin t (expr t (t.length + 1) ⟨0, 0⟩).1 (expr t (t.length + 1) ⟨0, 0⟩).2).pos, (fin t (expr t (t.length + 1) ⟨0, 0⟩).1 (expr t (t.length + 1) ⟨0, 0⟩).2).err) else ((expr t (t.length + 1) ⟨0, 0⟩).1, t.length, 0)) = parse t from rfl, h2]
  · have hv : Vx ([] : List UInt8) := .inl rfl
    have hl : ([(40 : UInt8)] ++ t ++ []).length = t.length + 1 := by simp
    have he := expr_loc (u := [40]) (t := t) hv (t.length + 1) (t.length + 1) ⟨0, 0⟩ (Nat.zero_le _) (by simp only; omega) (by simp only; omega) (by rw [h1])
    rw [← hs, h1] at he
    have hm0 : more ([(40 : UInt8)] ++ t ++ []) ⟨t.length + 1, 0⟩ = false := by unfold more; rw [hl]; simp
    have ha : atm (expr ([40] ++ t ++ []) (t.length + 1)) ([40] ++ t ++ []) ⟨0, 0⟩ = ((expr t (t.length + 1) ⟨0, 0⟩).1, ⟨t.length + 1, 2⟩) := by
      unfold atm
      have h40 : on ([(40 : UInt8)] ++ t ++ []) ⟨0, 0⟩ [40] = true := by unfold on more; rw [hl]; simp [cur]
      rw [if_pos h40]
      have hx : nx ⟨0, 0⟩ = ⟨1, 0⟩ := rfl
      rw [hx, he]
      simp only [Prod.mk.injEq, true_and]
      have h41 : on ([(40 : UInt8)] ++ t ++ []) (sh [(40 : UInt8)].length ⟨t.length, 0⟩) [41] = false := on_no hm0 _
      unfold cls
      rw [if_pos ⟨rfl, h41⟩, hl]
      rfl
    have hm : more ([(40 : UInt8)] ++ t ++ []) ⟨t.length + 1, 2⟩ = false := by unfold more; simp
    have hx := expr_one (by unfold more; rw [hl]; simp) (by unfold on more cur; simp) ha hm
    unfold parse
    simp only
    rw [hl, hx]
    have hf : fin ([(40 : UInt8)] ++ t ++ []) (expr t (t.length + 1) ⟨0, 0⟩).1 ⟨t.length + 1, 2⟩ = ⟨t.length + 1, 2⟩ := by
      unfold fin
      rw [hm, if_neg (by simp), if_pos (by simp)]
    simp only
    rw [hf, if_pos (by simp)]
end Rx
end Go.Proofs.YtoeeddfinmfnoaaDoor
