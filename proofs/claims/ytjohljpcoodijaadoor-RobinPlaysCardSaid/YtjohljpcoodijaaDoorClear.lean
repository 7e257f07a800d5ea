/- clear on a row of the call's own; a row cut short; a row's elements written one by one. Over any program. -/
import Derived.Test.YtjohljpcoodijaaDoorApp
import Derived.Lib.SliceRun
namespace Go.Proofs.YtjohljpcoodijaaDoor
open Go Go.RowKit
namespace Kt

theorem block_setCells {b e : Nat} {f : Nat × Nat} : ∀ (vs : List Value) (o : Nat) (w : World) (c : Array Value), w.heap[b]? = some (.cells c e f) →
    ∃ c', (w.setCells b o vs).heap[b]? = some (.cells c' e f) ∧ c'.size = c.size ∧ ∀ j, j < o → c'[j]? = c[j]?
  | [], _, _, c, h => ⟨c, h, rfl, fun _ _ => rfl⟩
  | v :: vs, o, w, c, h => by
    obtain ⟨c', h1, h2, h3⟩ := block_setCells vs (o + 1) (w.setCell ⟨b, o, none⟩ v) _ (block_setCell (i := o) h v)
    refine ⟨c', h1, by simpa using h2, fun j hj => ?_⟩
    rw [h3 j (by omega), Array.getElem?_setIfInBounds_ne (by omega)]
theorem heap_setCells {b k : Nat} (hk : k ≠ b) : ∀ (vs : List Value) (o : Nat) (w : World), (w.setCells b o vs).heap[k]? = w.heap[k]?
  | [], _, _ => rfl
  | v :: vs, o, _ => (heap_setCells hk vs (o + 1) _).trans (block_setOther hk v)
theorem grown_setCells (b : Nat) : ∀ (vs : List Value) (o : Nat) (w : World), w.grownBy (w.setCells b o vs) (some b)
  | [], _, _ => World.grownBy.refl _ _
  | v :: vs, o, w => by
    have h := grown_setCells b vs (o + 1) (w.setCell ⟨b, o, none⟩ v)
    exact ⟨h.os, h.tape, h.output, Nat.le_trans (by simp [World.setCell]) h.size, fun k hk hn => (h.block k (by simpa [World.setCell] using hk) hn).trans (block_setOther (fun e => hn (by rw [e])) v)⟩

section
variable {P : Program} {t e : TypeId} {z : Value} {size bytes : Nat} {w : World}
/-- 's[:k]' of a row of the call's own. -/
theorem own_cut {base e sz n cap k g : Nat} {xs : List Value} (h : w.ownsRow base e sz (.slice (some ⟨g, 0, none⟩) n cap) n xs) (hk : k ≤ n) : w.ownsRow base e sz (.slice (some ⟨g, 0, none⟩) k cap) k (xs.take (k * sz)) := by
  obtain ⟨h1, ⟨hx, _⟩ | ⟨g', cap', cur, hx, h2, h3, h4, h5, h6, h7⟩⟩ := h
  · cases hx
  · simp only [Value.slice.injEq, Option.some.injEq, Addr.mk.injEq, and_true, true_and] at hx
    obtain ⟨rfl, rfl⟩ := hx
    have hle : k * sz ≤ n * sz := Nat.mul_le_mul_right _ hk
    refine ⟨by rw [List.length_take]; omega, .inr ⟨g, cap, cur, rfl, h2, h3, by omega, h5, h6, ?_⟩⟩
    rw [← h7, List.take_take, Nat.min_eq_left hle]
/-- 'clear(s[k:n])', s a row of the call's own. -/
theorem El.clear (E : El P t e z size bytes) (base : Nat) {ty : TypeId} {g n cap k : Nat} {xs : List Value} (hz1 : ∀ u ∈ z.cells, u.oneCell' = true)
    (hown : w.ownsRow base e size (.slice (some ⟨g, 0, none⟩) n cap) n xs) (hk : k < n) (K m c : Nat) (hK : K = k * size) (hm : m = n - k) :
    ∃ w', (Builtin.clear_ #[t] ty #[.slice (some ⟨g, K, none⟩) m c]).run P w = .ok (.tuple #[]) w' ∧
      w'.ownsRow base e size (.slice (some ⟨g, 0, none⟩) k cap) k (xs.take (k * size)) ∧ w.grownBy w' (some g) := by
  subst hK hm
  obtain ⟨i, hi, hz, hs, hb⟩ := E.info
  have hcut := own_cut hown (Nat.le_of_lt hk)
  obtain ⟨h1, ⟨hx, _⟩ | ⟨g', cap', cur, hx, h2, h3, h4, h5, h6, h7⟩⟩ := hown
  · cases hx
  · simp only [Value.slice.injEq, Option.some.injEq, Addr.mk.injEq, and_true, true_and] at hx
    obtain ⟨rfl, rfl⟩ := hx
    have hsz : (Builtin.zeroCells z.cells (n - k)).size = (n - k) * size := by rw [size_zeroCells, E.hzs]
    have hle : k * size + (n - k) * size ≤ cap * size := by rw [← Nat.add_mul]; exact Nat.mul_le_mul_right _ (by omega)
    have hcl : ∀ j, j < (Builtin.zeroCells z.cells (n - k)).toList.length → (w.cell? ⟨g, k * size + 0 + j, none⟩).isSome = true := by
      intro j hj
      simp only [Array.length_toList, hsz] at hj
      rw [cell_block h3]
      rw [Array.getElem?_eq_getElem (by omega)]
      rfl
    have hst := run_storeCells_cells (P := P) g (k * size) (Builtin.zeroCells z.cells (n - k)).toList 0 w hcl (fun j _ => frozen_block h3 _) (by
      intro v hv
      have hpos : 0 < z.cells.size := by rw [E.hzs]; exact E.pos
      simp only [Builtin.zeroCells, Array.mem_toList_iff, Array.mem_map] at hv
      obtain ⟨q, _, rfl⟩ := hv
      refine hz1 _ ?_
      rw [getElem!_pos z.cells _ (Nat.mod_lt _ hpos)]
      exact Array.getElem_mem _)
    simp only [Nat.add_zero] at hst
    obtain ⟨c', e1, e2, e3⟩ := block_setCells (Builtin.zeroCells z.cells (n - k)).toList (k * size) w cur h3
    obtain ⟨mm, hmm⟩ : ∃ mm, n - k = mm + 1 := ⟨n - k - 1, by omega⟩
    have hzv : (zeroValue e).run P w = .ok z w := by simp [zeroValue, typeInfo, hi, hz]
    refine ⟨w.setCells g (k * size) (Builtin.zeroCells z.cells (n - k)).toList, ?_, ⟨hcut.1, .inr ⟨g, cap, c', rfl, h2, e1, by omega, h5, by rw [e2, h6], ?_⟩⟩, grown_setCells g _ _ w⟩
    · rw [hmm] at hst ⊢
      simp [Builtin.clear_, run_underlying E.ht, hzv, hst]
    · rw [← h7, List.take_take, Nat.min_eq_left (Nat.mul_le_mul_right _ (Nat.le_of_lt hk))]
      apply List.ext_getElem?
      intro j
      rw [List.getElem?_take, List.getElem?_take]
      split
      · rw [Array.getElem?_toList, Array.getElem?_toList, e3 j (by omega)]
      · rfl
end
end Kt
end Go.Proofs.YtjohljpcoodijaaDoor
