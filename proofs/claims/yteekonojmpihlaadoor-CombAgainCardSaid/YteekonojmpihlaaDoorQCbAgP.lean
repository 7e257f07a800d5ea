/- Plain law of chapter 23: the rows of a right comb may be laid. No program. -/
import Derived.Test.YteekonojmpihlaaDoorQCbLayR
import Derived.Test.YteekonojmpihlaaDoorQCbAt2
namespace Go.Proofs.YteekonojmpihlaaDoor
namespace Kt
end Kt
open Go Go.RowKit Kt
namespace Cb
theorem atC_range {c : Cs} (h : rightC c = true) {i p : Nat} (hi : i < c.base.length) : 0 ≤ atC c i p ∧ atC c i p < c.base.length := by
  have hg := good_of h
  have hd := hg.dflts i hi
  unfold rightC at h
  simp only [Bool.and_eq_true, Bool.or_eq_true, decide_eq_true_eq, List.all_eq_true, List.mem_range] at h
  obtain ⟨_, _, hs, _⟩ := h
  unfold atC
  simp only
  split
  · rename_i hc
    have := hs _ hc.1
    unfold slotOk at this
    rw [hc.2, if_neg (by omega)] at this
    simp only [Bool.and_eq_true, Bool.not_eq_true', outb, Bool.or_eq_false_iff, decide_eq_false_iff_not] at this
    omega
  · exact hd
theorem rowsC_len (c : Cs) : (rowsC c).length = c.base.length := by simp [rowsC]
theorem rowsC_layable {c : Cs} (h : rightC c = true) : layable (rowsC c) = true := by
  have hg := good_of h
  have hm := hg.many
  have hw := hg.wide
  have h0 : (rowsC c).getD 0 [] = rowC c c.wide.toNat 0 := by
    unfold rowsC
    rw [List.getD_eq_getElem?_getD, List.getElem?_map, List.getElem?_range (by omega)]
    rfl
  unfold layable
  simp only [Bool.and_eq_true, decide_eq_true_eq, List.all_eq_true]
  rw [h0, rowC_len, rowsC_len]
  refine ⟨hm.1, hm.2, by omega, by omega, fun r hr => ?_⟩
  unfold rowsC at hr
  obtain ⟨i, hi, rfl⟩ := List.mem_map.1 hr
  rw [List.mem_range] at hi
  refine ⟨rowC_len _ _ _, fun n hn => ?_⟩
  unfold rowC at hn
  obtain ⟨p, _, rfl⟩ := List.mem_map.1 hn
  rw [outb_false (atC_range h hi)]
  rfl
theorem rowsC_own {c : Cs} : ownAll (rowsC c) ≤ c.base.length * c.wide.toNat := by
  have := ownSum_le (rows := rowsC c) (f := c.wide.toNat) (fun r hr => by
    unfold rowsC at hr
    obtain ⟨i, _, rfl⟩ := List.mem_map.1 hr
    rw [rowC_len]
    exact Nat.le_refl _) c.base.length
  rw [ownSum_all (by rw [rowsC_len]; exact Nat.le_refl _)] at this
  exact this
end Cb
end Go.Proofs.YteekonojmpihlaaDoor
