/- Plain law of chapter 23: the document's laying is the program's. No program. -/
import Derived.Test.YteekonojmpihlaaDoorQCbLayR
namespace Go.Proofs.YteekonojmpihlaaDoor
namespace Kt
end Kt
open Go Go.RowKit Kt
namespace Cb
/-- The document's search for the number that is in a row most often, after the numbers below n. -/
structure ComI (row : List Int) (n : Nat) (best : Int) (most : Nat) : Prop where
  le : ∀ x : Nat, x < n → row.count (x : Int) ≤ most
  z : most = 0 → best = 0
  b : 0 < most → ∃ m : Nat, best = m ∧ m < n ∧ row.count (m : Int) = most ∧ ∀ x : Nat, x < m → row.count (x : Int) < most
theorem ComI.nil (row : List Int) : ComI row 0 0 0 := ⟨fun _ h => absurd h (Nat.not_lt_zero _), fun _ => rfl, fun h => absurd h (Nat.lt_irrefl _)⟩
theorem ComI.more {row : List Int} {n : Nat} {best : Int} {most : Nat} (h : ComI row n best most) (hk : most < row.count (n : Int)) : ComI row (n + 1) n (row.count (n : Int)) := by
  refine ⟨fun x hx => ?_, fun hz => absurd hz (by omega), fun _ => ⟨n, rfl, Nat.lt_succ_self _, rfl, fun x hx => Nat.lt_of_le_of_lt (h.le x hx) hk⟩⟩
  rcases Nat.lt_succ_iff_lt_or_eq.1 hx with h1 | h1
  · exact Nat.le_of_lt (Nat.lt_of_le_of_lt (h.le x h1) hk)
  · subst h1; exact Nat.le_refl _
theorem ComI.less {row : List Int} {n : Nat} {best : Int} {most : Nat} (h : ComI row n best most) (hk : ¬ most < row.count (n : Int)) : ComI row (n + 1) best most := by
  refine ⟨fun x hx => ?_, h.z, fun hm => ?_⟩
  · rcases Nat.lt_succ_iff_lt_or_eq.1 hx with h1 | h1
    · exact h.le x h1
    · subst h1; exact Nat.le_of_not_lt hk
  · obtain ⟨m, h1, h2, h3, h4⟩ := h.b hm
    exact ⟨m, h1, Nat.lt_succ_of_lt h2, h3, h4⟩
theorem ComI.fin {row : List Int} {n : Nat} {best : Int} {most : Nat} (h : ComI row n best most) (hr : row ≠ []) (hn : ∀ x ∈ row, 0 ≤ x ∧ x < (n : Int)) : best = cmn row := by
  have hin : ∀ x ∈ row, row.count x ≤ most := fun x hx => by
    have := hn x hx
    have h2 := h.le x.toNat (by omega)
    rw [Int.toNat_of_nonneg this.1] at h2
    exact h2
  have hm : 0 < most := by
    obtain ⟨x, hx⟩ := List.exists_mem_of_ne_nil row hr
    exact Nat.lt_of_lt_of_le (List.count_pos_iff.2 hx) (hin x hx)
  obtain ⟨m, rfl, h2, h3, h4⟩ := h.b hm
  refine IsCmn.eq ⟨List.count_pos_iff.1 (by omega), fun x hx => ?_⟩
  have h5 := hin x hx
  have h6 := hn x hx
  simp only [better, Bool.or_eq_false_iff, Bool.and_eq_false_iff, decide_eq_false_iff_not]
  refine ⟨by omega, ?_⟩
  by_cases hc : row.count x = row.count (m : Int)
  · refine .inr fun hlt => ?_
    have := h4 x.toNat (by omega)
    rw [Int.toNat_of_nonneg h6.1] at this
    omega
  · exact .inl hc
/-- A row's own places ahead of p. -/
def ownQ (row : List Int) (p : Nat) : List Nat := (List.range p).filter fun i => decide (row.getD i 0 ≠ cmn row)
theorem ownQ_all (row : List Int) : ownQ row row.length = ownL row := rfl
theorem ownQ_yes {row : List Int} {p : Nat} (h : row.getD p 0 ≠ cmn row) : ownQ row (p + 1) = ownQ row p ++ [p] := by
  unfold ownQ
  rw [List.range_succ, List.filter_append, List.filter_cons_of_pos (by simpa using h)]
  rfl
theorem ownQ_no {row : List Int} {p : Nat} (h : row.getD p 0 = cmn row) : ownQ row (p + 1) = ownQ row p := by
  unfold ownQ
  rw [List.range_succ, List.filter_append, List.filter_cons_of_neg (by simpa using h)]
  simp
/-- How often a number stands ahead of p. -/
def cntP (row : List Int) (n : Int) (p : Nat) : Nat := (row.take p).count n
theorem cntP_all (row : List Int) (n : Int) : cntP row n row.length = row.count n := by unfold cntP; rw [List.take_length]
theorem cntP_succ {row : List Int} {n : Int} {p : Nat} (hp : p < row.length) : cntP row n (p + 1) = if row.getD p 0 = n then cntP row n p + 1 else cntP row n p := by
  unfold cntP
  rw [List.take_succ_eq_append_getElem hp, List.count_append, List.getD_eq_getElem?_getD, List.getElem?_eq_getElem hp, Option.getD_some, List.count_singleton]
  by_cases h : row[p] = n
  · rw [if_pos h]; simp [h]
  · rw [if_neg h]; simp [h]
/-- The document's search for the row that has the most own places left, after the rows ahead of k. -/
def PickI (left : List Int) (k : Nat) (i : Int) : Prop :=
  (i = -1 ∧ ∀ j, j < k → left.getD j 0 < 0) ∨ ∃ m : Nat, i = m ∧ m < k ∧ 0 ≤ left.getD m 0 ∧ (∀ j, j < k → left.getD j 0 ≤ left.getD m 0) ∧ ∀ j, j < m → left.getD j 0 < left.getD m 0
theorem PickI.nil (left : List Int) : PickI left 0 (-1) := .inl ⟨rfl, fun _ h => absurd h (Nat.not_lt_zero _)⟩
theorem PickI.neg {left : List Int} {k : Nat} {i : Int} (h : PickI left k i) (hk : left.getD k 0 < 0) : PickI left (k + 1) i := by
  rcases h with ⟨h1, h2⟩ | ⟨m, h1, h2, h3, h4, h5⟩
  · refine .inl ⟨h1, fun j hj => ?_⟩
    rcases Nat.lt_succ_iff_lt_or_eq.1 hj with h | h
    · exact h2 j h
    · subst h; exact hk
  · refine .inr ⟨m, h1, Nat.lt_succ_of_lt h2, h3, fun j hj => ?_, h5⟩
    rcases Nat.lt_succ_iff_lt_or_eq.1 hj with h | h
    · exact h4 j h
    · subst h; omega
theorem PickI.first {left : List Int} {k : Nat} (h : PickI left k (-1)) (hk : 0 ≤ left.getD k 0) : PickI left (k + 1) k := by
  rcases h with ⟨h1, h2⟩ | ⟨m, h1, _⟩
  · refine .inr ⟨k, rfl, Nat.lt_succ_self _, hk, fun j hj => ?_, fun j hj => Int.lt_of_lt_of_le (h2 j hj) hk⟩
    rcases Nat.lt_succ_iff_lt_or_eq.1 hj with h | h
    · exact Int.le_of_lt (Int.lt_of_lt_of_le (h2 j h) hk)
    · subst h; exact Int.le_refl _
  · omega
theorem PickI.more {left : List Int} {k m : Nat} (h : PickI left k (m : Int)) (hk : left.getD m 0 < left.getD k 0) : PickI left (k + 1) k := by
  rcases h with ⟨h1, h2⟩ | ⟨m', h1, h2, h3, h4, h5⟩
  · omega
  · obtain rfl : m = m' := by omega
    refine .inr ⟨k, rfl, Nat.lt_succ_self _, by omega, fun j hj => ?_, fun j hj => Int.lt_of_le_of_lt (h4 j hj) hk⟩
    rcases Nat.lt_succ_iff_lt_or_eq.1 hj with h | h
    · exact Int.le_of_lt (Int.lt_of_le_of_lt (h4 j h) hk)
    · subst h; exact Int.le_refl _
theorem PickI.less {left : List Int} {k m : Nat} (h : PickI left k (m : Int)) (hk : ¬ left.getD m 0 < left.getD k 0) : PickI left (k + 1) m := by
  rcases h with ⟨h1, h2⟩ | ⟨m', h1, h2, h3, h4, h5⟩
  · omega
  · obtain rfl : m = m' := by omega
    refine .inr ⟨m, rfl, Nat.lt_succ_of_lt h2, h3, fun j hj => ?_, h5⟩
    rcases Nat.lt_succ_iff_lt_or_eq.1 hj with h | h
    · exact h4 j h
    · subst h; omega
/-- How many own places the rows have that are not yet laid. -/
def leftL (rows : List (List Int)) (done : List Nat) : List Int := (List.range rows.length).map fun i => if i ∈ done then -1 else (ownN (rows.getD i []) : Int)
theorem leftL_len (rows : List (List Int)) (done : List Nat) : (leftL rows done).length = rows.length := by unfold leftL; rw [List.length_map, List.length_range]
theorem leftL_get (rows : List (List Int)) (done : List Nat) {i : Nat} (h : i < rows.length) : (leftL rows done).getD i 0 = if i ∈ done then -1 else (ownN (rows.getD i []) : Int) := by
  unfold leftL
  rw [List.getD_eq_getElem?_getD, List.getElem?_map, List.getElem?_range h]
  rfl
theorem leftL_set (rows : List (List Int)) (done : List Nat) {i : Nat} (h : i < rows.length) : (leftL rows done).set i (-1) = leftL rows (done ++ [i]) := by
  apply List.ext_getElem?
  intro k
  rw [List.getElem?_set]
  rcases Nat.lt_or_ge k rows.length with hk | hk
  · unfold leftL
    rw [List.getElem?_map, List.getElem?_map, List.getElem?_range hk, List.length_map, List.length_range]
    by_cases hik : i = k
    · subst hik
      rw [if_pos rfl, if_pos h]
      simp
    · rw [if_neg hik]
      simp only [Option.map_some, Option.some.injEq, List.mem_append, List.mem_singleton]
      by_cases hd : k ∈ done
      · rw [if_pos hd, if_pos (.inl hd)]
      · rw [if_neg hd, if_neg (fun hh => hh.elim hd (fun e => hik e.symm))]
  · rw [List.getElem?_eq_none (by rw [leftL_len]; exact hk), List.getElem?_eq_none (by rw [leftL_len]; exact hk)]
    rw [if_neg (by omega)]
theorem ordN_sorted (key : Nat → Nat) (n : Nat) : (ordN key n).Pairwise fun x y => lx key y x = false := by
  have h := List.pairwise_mergeSort (le := fun x y => !lx key y x) (fun a b c h1 h2 => by
    simp only [Bool.not_eq_true', lx, Bool.or_eq_false_iff, Bool.and_eq_false_iff, decide_eq_false_iff_not] at *
    omega) (fun a b => by
    simp only [Bool.or_eq_true, Bool.not_eq_true', lx, Bool.or_eq_false_iff, Bool.and_eq_false_iff, decide_eq_false_iff_not]
    omega) (List.range n)
  exact h.imp fun hh => by simpa using hh
theorem ord_len (rows : List (List Int)) : (ord rows).length = rows.length := by rw [(ord_perm rows).length_eq, List.length_range]
theorem ord_nodup (rows : List (List Int)) : (ord rows).Nodup := (ord_perm rows).nodup_iff.2 List.nodup_range
/-- The row that is laid next. -/
def nxt (rows : List (List Int)) (k : Nat) : Nat := (ord rows).getD k 0
theorem nxt_get {rows : List (List Int)} {k : Nat} (h : k < rows.length) : (ord rows)[k]? = some (nxt rows k) := by
  unfold nxt
  rw [List.getD_eq_getElem?_getD, List.getElem?_eq_getElem (by rw [ord_len]; exact h)]
  rfl
theorem nxt_lt {rows : List (List Int)} {k : Nat} (h : k < rows.length) : nxt rows k < rows.length := mem_ord.1 (List.mem_of_getElem? (nxt_get h))
theorem take_nxt {rows : List (List Int)} {k : Nat} (h : k < rows.length) : (ord rows).take (k + 1) = (ord rows).take k ++ [nxt rows k] := by
  rw [List.take_add_one, nxt_get h]
  rfl
theorem nxt_new {rows : List (List Int)} {k : Nat} (h : k < rows.length) : nxt rows k ∉ (ord rows).take k := by
  have hnd := ord_nodup rows
  rw [← List.take_append_drop (k + 1) (ord rows), take_nxt h, List.append_assoc] at hnd
  exact fun hm => (List.nodup_append.1 hnd).2.2 _ hm _ (by simp) rfl
theorem nxt_of {rows : List (List Int)} {k : Nat} {i : Int} (h : k < rows.length) (hp : PickI (leftL rows ((ord rows).take k)) rows.length i) : i = (nxt rows k : Nat) := by
  have hx := nxt_lt h
  have hxn := nxt_new h
  have hgx := leftL_get rows ((ord rows).take k) hx
  rw [if_neg hxn] at hgx
  rcases hp with ⟨_, h2⟩ | ⟨m, h1, h2, h3, h4, h5⟩
  · have := h2 _ hx
    omega
  · rw [h1]
    have hgm := leftL_get rows ((ord rows).take k) h2
    by_cases hmd : m ∈ (ord rows).take k
    · rw [if_pos hmd] at hgm
      omega
    · rw [if_neg hmd] at hgm
      have hmo : m ∈ ord rows := mem_ord.2 h2
      have hs := ordN_sorted (fun i => ownN (rows.getD i [])) rows.length
      change (ord rows).Pairwise _ at hs
      rw [← List.take_append_drop (k + 1) (ord rows), take_nxt h, List.append_assoc] at hs hmo
      rcases List.mem_append.1 hmo with hh | hh
      · exact absurd hh hmd
      · rcases List.mem_cons.1 hh with hh | hh
        · rw [hh]
        · have h6 := (List.pairwise_cons.1 (List.pairwise_append.1 hs).2.1).1 m hh
          have h7 := h4 _ hx
          simp only [lx, Bool.or_eq_false_iff, Bool.and_eq_false_iff, decide_eq_false_iff_not] at h6
          rcases Nat.lt_trichotomy (nxt rows k) m with h8 | h8 | h8
          · have := h5 _ h8
            omega
          · rw [h8]
          · omega
/-- What is laid after k rows. -/
def stK (rows : List (List Int)) (k : Nat) : Ly := ((ord rows).take k).foldl (layS rows) ⟨List.replicate rows.length 0, [], []⟩
theorem stK_zero (rows : List (List Int)) : stK rows 0 = ⟨List.replicate rows.length 0, [], []⟩ := rfl
theorem stK_succ {rows : List (List Int)} {k : Nat} (h : k < rows.length) : stK rows (k + 1) = layS rows (stK rows k) (nxt rows k) := by
  unfold stK
  rw [take_nxt h, List.foldl_append]
  rfl
theorem stK_all (rows : List (List Int)) : stK rows rows.length = layL rows := by
  unfold stK layL
  rw [List.take_of_length_le (by rw [ord_len]; exact Nat.le_refl _)]
theorem stK_inv {rows : List (List Int)} {f : Nat} (hf : f ≤ 256) (hr : ∀ r ∈ rows, r.length = f) (k : Nat) : LyInv rows f ((ord rows).take k) (stK rows k) := by
  have h := LyInv.all hf hr ((ord rows).take k) [] _ (LyInv.nil rows f) (by
    rw [List.nil_append]
    exact (ord_nodup rows).sublist (List.take_sublist _ _)) (fun i hi => mem_ord.1 (List.mem_of_mem_take hi))
  rw [List.nil_append] at h
  exact h
/-- The document's question whether a place of a row is taken, at a base. -/
def clash1 (ck row : List Int) (b p : Nat) : Bool := decide (row.getD p 0 ≠ cmn row) && (decide (b + p < ck.length) && decide (0 ≤ ck.getD (b + p) 0))
def clashP (ck row : List Int) (b p : Nat) : Bool := (List.range p).any (clash1 ck row b)
theorem clashP_succ (ck row : List Int) (b p : Nat) : clashP ck row b (p + 1) = (clashP ck row b p || clash1 ck row b p) := by
  unfold clashP
  rw [List.range_succ, List.any_append]
  simp
theorem clash_fits {ck row : List Int} {b : Nat} (hck : ∀ t, t < ck.length → ck.getD t 0 = -1 ∨ 0 ≤ ck.getD t 0) : fits ck (ownL row) b = !clashP ck row b row.length := by
  apply Bool.eq_iff_iff.2
  unfold fits clashP ownL
  rw [List.all_eq_true, Bool.not_eq_true', List.any_eq_false]
  constructor
  · intro h p hp
    by_cases ho : row.getD p 0 = cmn row
    · unfold clash1; rw [decide_eq_false (by simpa using ho)]; simp
    · have := h p (List.mem_filter.2 ⟨hp, by simpa using ho⟩)
      simp only [freeS, Bool.not_eq_true', Bool.and_eq_false_iff, decide_eq_false_iff_not] at this
      simp only [clash1, Bool.and_eq_true, decide_eq_true_eq]
      rintro ⟨_, h2, h3⟩
      rcases this with h4 | h4
      · exact h4 h2
      · have h5 : ck.getD (b + p) 0 = -1 := Classical.not_not.1 h4
        omega
  · intro h p hp
    obtain ⟨hp1, hp2⟩ := List.mem_filter.1 hp
    have := h p hp1
    simp only [decide_eq_true_eq] at hp2
    simp only [clash1, Bool.and_eq_true, decide_eq_true_eq] at this
    simp only [freeS, Bool.not_eq_true', Bool.and_eq_false_iff, decide_eq_false_iff_not]
    by_cases hl : b + p < ck.length
    · right
      intro h4
      rcases hck _ hl with h5 | h5
      · exact h4 h5
      · exact this ⟨hp2, hl, h5⟩
    · exact .inl hl
theorem gkd {l : List Int} {t : Nat} (h : t < l.length) : l.getD t 0 = gk l t := (gk_in h).symm
theorem stK_ck {rows : List (List Int)} {f : Nat} (hf : f ≤ 256) (hr : ∀ r ∈ rows, r.length = f) (k t : Nat) (ht : t < (stK rows k).check.length) : (stK rows k).check.getD t 0 = -1 ∨ 0 ≤ (stK rows k).check.getD t 0 := by
  rw [gkd ht]
  rcases (stK_inv hf hr k).slot t with h | ⟨i, _, p, _, _, h, _⟩
  · exact .inl h.1
  · right; rw [h]; omega
end Cb
end Go.Proofs.YteekonojmpihlaaDoor
