/- A row in a block of its own, whose cells are written one by one. Over any program. -/
import Derived.Test.YteekonojmpihlaaDoorQMod
namespace Go.Proofs.YteekonojmpihlaaDoor
open Go Go.RowKit
namespace Kt
/-- Block g begins with the cells xs; it has cap cells. -/
structure Rx (w : World) (g : Nat) (T : TypeId) (cap : Nat) (xs : List Value) : Prop where
  ex : ∃ cur : Array Value, w.heap[g]? = some (.cells cur T (0, 0)) ∧ cur.size = cap ∧ cur.toList.take xs.length = xs
  le : xs.length ≤ cap
variable {w w' : World} {g : Nat} {T : TypeId} {cap : Nat} {xs : List Value}
theorem Rx.lt (h : Rx w g T cap xs) : g < w.heap.size := by obtain ⟨_, h1, _⟩ := h.ex; exact block_lt h1
theorem Rx.cell (h : Rx w g T cap xs) (i : Nat) (hi : i < xs.length) : w.cell? ⟨g, i, none⟩ = some xs[i] := by
  obtain ⟨cur, h1, h2, h3⟩ := h.ex
  rw [cell_block h1]
  have h4 : (cur.toList.take xs.length)[i]? = some xs[i] := by rw [h3]; exact List.getElem?_eq_getElem hi
  rw [List.getElem?_take_of_lt hi] at h4
  rw [← Array.getElem?_toList]
  exact h4
theorem Rx.fr (h : Rx w g T cap xs) (i : Nat) : w.frozen? ⟨g, i, none⟩ = false := by obtain ⟨_, h1, _⟩ := h.ex; exact frozen_block h1 i
theorem Rx.mod {S : List Nat} (h : Rx w g T cap xs) (hM : Mod S w w') (hg : g ∉ S) : Rx w' g T cap xs := by
  obtain ⟨cur, h1, h2⟩ := h.ex
  exact ⟨⟨cur, (hM.block g h.lt hg).trans h1, h2⟩, h.le⟩
theorem Rx.below (h : Rx w g T cap xs) (hB : Below w.heap.size w w') : Rx w' g T cap xs := h.mod (Mod.of_below hB []) (by simp)
theorem Rx.set (h : Rx w g T cap xs) (i : Nat) (v : Value) : Rx (w.setCell ⟨g, i, none⟩ v) g T cap (xs.set i v) := by
  obtain ⟨cur, h1, h2, h3⟩ := h.ex
  refine ⟨⟨cur.setIfInBounds i v, block_setCell h1 v, by simpa using h2, ?_⟩, by simpa using h.le⟩
  rw [List.length_set, Array.toList_setIfInBounds, List.take_set, h3]
theorem Rx.other (h : Rx w g T cap xs) {b : Nat} (hb : b ≠ g) (i : Nat) (v : Value) : Rx (w.setCell ⟨b, i, none⟩ v) g T cap xs :=
  h.mod ((Mod.refl [b] w).setCell (.inl (by simp)) v) (by simpa using fun e => hb e.symm)
theorem Rx.alloc (h : Rx w g T cap xs) (o : Obj) : Rx (w.alloc o) g T cap xs := h.below ((Below.refl _ _).alloc (Nat.le_refl _) o)
theorem Rx.new (w : World) (T : TypeId) (xs : List Value) : Rx (w.alloc (.cells xs.toArray T (0, 0))) w.heap.size T xs.length xs :=
  ⟨⟨xs.toArray, heap_alloc_new w _, by simp, by simp⟩, Nat.le_refl _⟩
theorem Rx.drew (h : Rx w g T cap xs) : Rx w.drew g T cap xs := ⟨h.ex, h.le⟩
theorem Rx.rd (h : Rx w g T cap xs) : Rd w (some ⟨g, 0, none⟩) xs := fun i x hi => by
  obtain ⟨hl, rfl⟩ := List.getElem?_eq_some_iff.1 hi
  exact ⟨g, 0, rfl, by rw [Nat.zero_add]; exact h.cell i hl⟩
theorem Rx.of_own {base n : Nat} {xs : List Value} (h : w.ownsRow base T 1 (.slice (some ⟨g, 0, none⟩) n cap) n xs) : Rx w g T cap xs ∧ xs.length = n ∧ base ≤ g := by
  obtain ⟨h1, h2 | ⟨g', cap', cur, h3, h4, h5, h6, h7, h8, h9⟩⟩ := h
  · simp at h2
  · simp only [Value.slice.injEq, Option.some.injEq, Addr.mk.injEq, and_true, true_and] at h3
    obtain ⟨rfl, rfl⟩ := h3
    rw [Nat.mul_one] at h1 h8 h9
    exact ⟨⟨⟨cur, h5, h8, by rw [h1]; exact h9⟩, by omega⟩, h1, h4⟩
theorem Rx.own {base : Nat} (h : Rx w g T cap xs) (hb : base ≤ g) (hc : cap ≤ maxLen) : w.ownsRow base T 1 (.slice (some ⟨g, 0, none⟩) xs.length cap) xs.length xs := by
  obtain ⟨cur, h1, h2, h3⟩ := h.ex
  exact ⟨by simp, .inr ⟨g, cap, cur, rfl, hb, h1, h.le, hc, by rw [Nat.mul_one]; exact h2, by rw [Nat.mul_one]; exact h3⟩⟩
end Kt
end Go.Proofs.YteekonojmpihlaaDoor
