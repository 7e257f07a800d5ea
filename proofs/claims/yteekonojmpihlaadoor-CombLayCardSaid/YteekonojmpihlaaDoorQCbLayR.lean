/- Plain law of chapter 23: a laid comb is right, and its rows are what was laid. No program. -/
import Derived.Test.YteekonojmpihlaaDoorQCbLayQ
import Derived.Test.YteekonojmpihlaaDoorQCbRows
import Derived.Test.YteekonojmpihlaaDoorQCbOwnA
namespace Go.Proofs.YteekonojmpihlaaDoor
namespace Kt
end Kt
open Go Go.RowKit Kt
namespace Cb
/-- A comb is rows laid. -/
structure Laid (rows : List (List Int)) (c : Cs) : Prop where
  wide : c.wide = ((rows.getD 0 []).length : Int)
  base : c.base = (layL rows).base
  dflt : c.dflt = rows.map cmn
  next : c.next = (layL rows).next
  check : c.check = (layL rows).check
structure LyF (rows : List (List Int)) (f : Nat) : Prop where
  many : 1 ≤ rows.length ∧ rows.length ≤ 200
  wide : 1 ≤ f ∧ f ≤ 256
  len : ∀ r ∈ rows, r.length = f
  num : ∀ r ∈ rows, ∀ n ∈ r, 0 ≤ n ∧ n < rows.length
theorem lyF_of {rows : List (List Int)} (h : layable rows = true) : LyF rows (rows.getD 0 []).length := by
  unfold layable at h
  simp only [Bool.and_eq_true, decide_eq_true_eq, List.all_eq_true] at h
  obtain ⟨h1, h2, h3, h4, h5⟩ := h
  refine ⟨⟨h1, h2⟩, ⟨h3, h4⟩, fun r hr => (h5 r hr).1, fun r hr n hn => ?_⟩
  have := (h5 r hr).2 n hn
  simp only [outb, Bool.not_eq_true', Bool.or_eq_false_iff, decide_eq_false_iff_not] at this
  omega
theorem getD_row {rows : List (List Int)} {i : Nat} (h : i < rows.length) : rows.getD i [] ∈ rows := by
  rw [List.getD_eq_getElem?_getD, List.getElem?_eq_getElem h]
  exact List.getElem_mem h
theorem getD_num {r : List Int} {p : Nat} (h : p < r.length) : r.getD p 0 ∈ r := by
  rw [List.getD_eq_getElem?_getD, List.getElem?_eq_getElem h]
  exact List.getElem_mem h
theorem mem_ord {rows : List (List Int)} {i : Nat} : i ∈ ord rows ↔ i < rows.length := by
  rw [(ord_perm rows).mem_iff, List.mem_range]
theorem outb_false {n m : Int} (h : 0 ≤ n ∧ n < m) : outb n m = false := by
  unfold outb
  rw [decide_eq_false (by omega), decide_eq_false (by omega)]
  rfl
theorem gk_in {l : List Int} {t : Nat} (h : t < l.length) : gk l t = l.getD t 0 := by
  unfold gk
  rw [List.getD_eq_getElem?_getD, List.getD_eq_getElem?_getD, List.getElem?_eq_getElem h]
  rfl
theorem laid_right {rows : List (List Int)} {c : Cs} (h : Laid rows c) (hy : layable rows = true) : rightC c = true := by
  obtain ⟨f, hf⟩ : ∃ f, (rows.getD 0 []).length = f := ⟨_, rfl⟩
  have hl := lyF_of hy
  rw [hf] at hl
  have hi := layL_inv hl.wide.2 hl.len
  obtain ⟨wd, a1, bs, c1, a2, ds, c2, a3, nx, c3, a4, ck, c4⟩ := c
  obtain ⟨e1, e2, e3, e4, e5⟩ := h
  simp only at e1 e2 e3 e4 e5
  rw [hf] at e1
  subst e2 e4 e5
  have hol : (ord rows).length ≤ 200 := by rw [(ord_perm rows).length_eq, List.length_range]; exact hl.many.2
  have hmem : ∀ i, i ∈ ord rows → i < rows.length := fun i hiO => mem_ord.1 hiO
  generalize ord rows = O at hi hol hmem
  have hm := hl.many
  unfold rightC
  simp only [Bool.and_eq_true, Bool.or_eq_true, decide_eq_true_eq, List.all_eq_true, List.mem_range]
  have hbl := hi.bl
  have hlen := hi.len
  have hle := hi.le
  refine ⟨⟨⟨⟨⟨⟨⟨by omega, by omega⟩, by rw [e3, List.length_map, hbl]⟩, by have := hl.wide; omega⟩, by have := hl.wide; omega⟩, hlen.symm⟩, by omega⟩, fun i hi2 => ?_, fun t ht => ?_, ?_⟩
  · unfold baseOk
    simp only
    have hb := hi.base i
    have hr : i < rows.length := by omega
    have hd : ds.getD i 0 = cmn (rows.getD i []) := by
      rw [e3, List.getD_eq_getElem?_getD, List.getElem?_map, List.getD_eq_getElem?_getD, List.getElem?_eq_getElem hr]
      rfl
    have hrm := getD_row hr
    have hne : rows.getD i [] ≠ [] := fun e => by have := hl.len _ hrm; have := hl.wide; rw [e] at *; simp at *; omega
    have hcm := hl.num _ hrm _ (isCmn_cmn hne).mem
    rw [hd, outb_false ⟨hb.1, by omega⟩, outb_false (by rw [hbl]; exact hcm)]
    rfl
  · unfold slotOk
    simp only
    rw [← gk_in ht]
    rcases hi.slot t with ⟨h1, h2⟩ | ⟨i, hiO, p, hp, h1, h2, h3⟩
    · rw [if_pos h1]
      simpa [gn] using h2
    · have hir := hmem i hiO
      have hrm := getD_row hir
      rw [h2, if_neg (by omega), Int.toNat_natCast]
      have hpl := (mem_ownL.1 hp).1
      have hfl := hl.len _ hrm
      have hnum := hl.num _ hrm _ (getD_num hpl)
      unfold gn at h3
      rw [h3, outb_false (by rw [hbl]; omega), outb_false (by rw [e1]; omega), outb_false (by rw [hbl]; exact hnum)]
      rfl
  · rcases hi.last with h1 | h1
    · exact .inl h1
    · by_cases h0 : (layL rows).check.length = 0
      · exact .inl h0
      · exact .inr (by rw [← gk_in (by omega)]; exact h1)
theorem laid_at {rows : List (List Int)} {c : Cs} (h : Laid rows c) (hy : layable rows = true) {i p : Nat} (hin : i < rows.length) (hp : p < (rows.getD 0 []).length) : atC c i p = (rows.getD i []).getD p 0 := by
  obtain ⟨f, hf⟩ : ∃ f, (rows.getD 0 []).length = f := ⟨_, rfl⟩
  have hl := lyF_of hy
  rw [hf] at hl hp
  have hi := layL_inv hl.wide.2 hl.len
  have hmO := mem_ord (rows := rows) (i := i)
  have hrm := getD_row hin
  have hrl := hl.len _ hrm
  unfold atC
  simp only
  rw [h.base, h.check, h.next, h.dflt]
  have hb := hi.base i
  have hd : (rows.map cmn).getD i 0 = cmn (rows.getD i []) := by
    rw [List.getD_eq_getElem?_getD, List.getElem?_map, List.getD_eq_getElem?_getD, List.getElem?_eq_getElem hin]
    rfl
  rw [hd]
  by_cases hown : p ∈ ownL (rows.getD i [])
  · obtain ⟨h1, h2⟩ := hi.own i (hmO.2 hin) p hown
    have hlt : ((layL rows).base.getD i 0 + p).toNat < (layL rows).check.length := by
      rcases Nat.lt_or_ge ((layL rows).base.getD i 0 + p).toNat (layL rows).check.length with h3 | h3
      · exact h3
      · unfold gk at h1
        rw [List.getD_eq_getElem?_getD, List.getElem?_eq_none h3] at h1
        simp only [Option.getD_none] at h1
        omega
    rw [if_pos ⟨hlt, by rw [← gk_in hlt]; exact h1⟩]
    exact h2
  · have hc : (rows.getD i []).getD p 0 = cmn (rows.getD i []) := by
      rw [mem_ownL] at hown
      exact Classical.byContradiction fun hn => hown ⟨by omega, hn⟩
    rw [hc, if_neg]
    rintro ⟨h1, h2⟩
    rw [← gk_in h1] at h2
    rcases hi.slot ((layL rows).base.getD i 0 + p).toNat with ⟨h3, _⟩ | ⟨j, _, q, hq, h3, h4, _⟩
    · rw [h3] at h2
      omega
    · rw [h4] at h2
      obtain rfl : j = i := by omega
      obtain rfl : q = p := by omega
      exact hown hq
theorem laid_rows {rows : List (List Int)} {c : Cs} (h : Laid rows c) (hy : layable rows = true) : rowsC c = rows := by
  have hl := lyF_of hy
  have hbl := (layL_inv hl.wide.2 hl.len).bl
  unfold rowsC
  apply List.ext_getElem?
  intro k
  rw [List.getElem?_map, h.base, hbl]
  rcases Nat.lt_or_ge k rows.length with hk | hk
  · rw [List.getElem?_range hk, List.getElem?_eq_getElem hk]
    simp only [Option.map_some, Option.some.injEq]
    have hrk : rows.getD k [] = rows[k] := by rw [List.getD_eq_getElem?_getD, List.getElem?_eq_getElem hk]; rfl
    have hkl := hl.len _ (List.getElem_mem hk)
    unfold rowC
    apply List.ext_getElem?
    intro p
    rw [List.getElem?_map, h.wide]
    rcases Nat.lt_or_ge p rows[k].length with hp | hp
    · rw [List.getElem?_range (by omega), List.getElem?_eq_getElem hp]
      simp only [Option.map_some, Option.some.injEq]
      rw [laid_at h hy hk (by omega), hrk, List.getD_eq_getElem?_getD, List.getElem?_eq_getElem hp]
      rfl
    · rw [List.getElem?_eq_none hp, List.getElem?_eq_none (by rw [List.length_range]; omega)]
      rfl
  · rw [List.getElem?_eq_none hk, List.getElem?_eq_none (by rw [List.length_range]; exact hk)]
    rfl
end Cb
end Go.Proofs.YteekonojmpihlaaDoor
