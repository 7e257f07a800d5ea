import Derived.Test.YtpjimmdpcpcmoaaDoorQMod
import Derived.ArgAppend
/- A slice of one-celled elements from an offset on in a block of its own: cut at the head, appended to. Over any program. -/
namespace Go.Proofs.YtpjimmdpcpcmoaaDoor
open Go Go.RowKit
namespace Kt
/-- v is a slice with the elements xs; S: its block. -/
def SlO (w : World) (T : TypeId) (v : Value) (S : List Nat) (xs : List Value) : Prop :=
  (v = .slice none 0 0 ∧ xs = [] ∧ S = []) ∨ ∃ (g off cap : Nat) (cur : Array Value), v = .slice (some ⟨g, off, none⟩) xs.length cap ∧ S = [g] ∧ w.heap[g]? = some (.cells cur T (0, 0)) ∧ xs.length ≤ cap ∧ off + cap ≤ cur.size ∧ cur.size ≤ maxLen ∧ (cur.toList.drop off).take xs.length = xs
variable {P : Program} {w w' : World} {T t ty : TypeId} {v : Value} {S : List Nat} {xs : List Value}
theorem SlO.nil (w : World) (T : TypeId) : SlO w T (.slice none 0 0) [] [] := .inl ⟨rfl, rfl, rfl⟩
theorem SlO.lt (h : SlO w T v S xs) : ∀ k ∈ S, k < w.heap.size := by
  rcases h with ⟨_, _, rfl⟩ | ⟨g, off, cap, cur, _, rfl, h1, _⟩
  · intro k hk; cases hk
  · intro k hk
    simp only [List.mem_singleton] at hk
    subst hk
    exact block_lt h1
theorem SlO.mod {M : List Nat} (h : SlO w T v S xs) (hM : Mod M w w') (hS : ∀ k ∈ S, k ∉ M) : SlO w' T v S xs := by
  have hlt := h.lt
  rcases h with h | ⟨g, off, cap, cur, h1, rfl, h2, h3⟩
  · exact .inl h
  · exact .inr ⟨g, off, cap, cur, h1, rfl, (hM.block g (hlt g (by simp)) (hS g (by simp))).trans h2, h3⟩
theorem SlO.form (h : SlO w T v S xs) : ∃ a cap, v = .slice a xs.length cap := by
  rcases h with ⟨rfl, rfl, _⟩ | ⟨g, off, cap, cur, h1, _⟩
  · exact ⟨none, 0, rfl⟩
  · exact ⟨_, _, h1⟩
/-- An element. -/
theorem SlO.cell (h : SlO w T v S xs) (j : Nat) (hj : j < xs.length) : ∃ g off cap, v = .slice (some ⟨g, off, none⟩) xs.length cap ∧ S = [g] ∧ w.cell? ⟨g, off + j, none⟩ = some xs[j] := by
  rcases h with ⟨_, rfl, _⟩ | ⟨g, off, cap, cur, h1, h0, h2, h3, h4, h5, h6⟩
  · simp at hj
  · refine ⟨g, off, cap, h1, h0, ?_⟩
    rw [cell_block h2, ← Array.getElem?_toList]
    have h7 : ((cur.toList.drop off).take xs.length)[j]? = some xs[j] := by rw [h6]; exact List.getElem?_eq_getElem hj
    rw [List.getElem?_take_of_lt hj, List.getElem?_drop] at h7
    exact h7
theorem SlO.of_own {base n : Nat} (h : w.ownsRow base T 1 v n xs) : ∃ S, SlO w T v S xs ∧ ∀ k ∈ S, base ≤ k := by
  obtain ⟨h0, ⟨rfl, rfl⟩ | ⟨g, cap, cur, rfl, h1, h2, h3, h4, h5, h6⟩⟩ := h
  · rw [Nat.zero_mul] at h0
    have := List.length_eq_zero_iff.1 h0
    subst this
    exact ⟨[], .inl ⟨rfl, rfl, rfl⟩, by simp⟩
  · rw [Nat.mul_one] at h0 h5 h6
    subst h0
    exact ⟨[g], .inr ⟨g, 0, cap, cur, rfl, rfl, h2, h3, by omega, by omega, by simpa using h6⟩, by simpa using h1⟩
/-- The slice without its first element. -/
theorem SlO.tail {x : Value} (h : SlO w T v S (x :: xs)) : ∃ g off cap, v = .slice (some ⟨g, off, none⟩) (xs.length + 1) cap ∧ xs.length + 1 ≤ cap ∧ cap ≤ maxLen ∧ (cap = 1 → SlO w T (.slice (some ⟨g, off, none⟩) 0 0) S xs) ∧
    (1 < cap → SlO w T (.slice (some ⟨g, off + 1, none⟩) xs.length (cap - 1)) S xs) := by
  rcases h with ⟨_, h0, _⟩ | ⟨g, off, cap, cur, h1, h0, h2, h3, h4, h5, h6⟩
  · cases h0
  · simp only [List.length_cons] at h1 h3 h6
    refine ⟨g, off, cap, h1, h3, by omega, fun hc => ?_, fun hc => .inr ⟨g, off + 1, cap - 1, cur, rfl, h0, h2, by omega, by omega, h5, ?_⟩⟩
    · have : xs = [] := List.length_eq_zero_iff.1 (by omega)
      subst this
      exact .inr ⟨g, off, 0, cur, rfl, h0, h2, by simp, by omega, h5, by simp⟩
    · have hlt : off < cur.toList.length := by simp; omega
      rw [List.drop_eq_getElem_cons hlt] at h6
      simp only [List.take_succ_cons, List.cons.injEq] at h6
      exact h6.2
/-- An element behind: the run of 'append(v, x)', x in a block of its own at the heap's end. -/
theorem SlO.app (h : SlO w T v S xs) (ht : P.underlying t = some (.slice T)) (z : Value) (bytes : Nat) (hi : ∃ i, P.info? T = some i ∧ i.zero = some z ∧ i.size = 1 ∧ i.bytes = bytes) (hz : z.cells.size = 1) (x : Value) (hx : x.oneCell' = true)
    (hm : (xs.length + 1) * bytes ≤ 140737488355328) (hl : xs.length + 1 ≤ maxLen) :
    ∃ v' w' S', (Builtin.append_ #[t, t] ty #[v, .slice (some ⟨w.heap.size, 0, none⟩) 1 1]).run P (w.alloc (.cells #[x] T (0, 0))) = .ok v' w' ∧ SlO w' T v' S' (xs ++ [x]) ∧ Mod S w w' ∧ ∀ k ∈ S', k ∈ S ∨ w.heap.size ≤ k := by
  obtain ⟨i, i1, i2, i3, i4⟩ := hi
  have hnew : ∀ j u, [x][j]? = some u → (w.alloc (.cells #[x] T (0, 0))).cell? ((⟨w.heap.size, 0, none⟩ : Addr).add j) = some u := by
    intro j u hj
    obtain ⟨h1, h2⟩ := List.getElem?_eq_some_iff.1 hj
    simp only [List.length_cons, List.length_nil] at h1
    obtain rfl : j = 0 := by omega
    simp [Addr.add, ← h2]
  have hone : ∀ u ∈ [x], u.oneCell' = true := by intro u hu; simp only [List.mem_singleton] at hu; subst hu; exact hx
  have hMa : Mod S w (w.alloc (.cells #[x] T (0, 0))) := (Mod.refl S w).alloc _
  rcases h with ⟨rfl, rfl, rfl⟩ | ⟨g, off, cap, cur, rfl, rfl, h2, h3, h4, h5, h6⟩
  · obtain ⟨v', w', hrun, r1, r2, _⟩ := run_append_own (P := P) (w.alloc (.cells #[x] T (0, 0))) (w.alloc (.cells #[x] T (0, 0))).heap.size t ty T i z 1 bytes ht i1 i2 i3 i4 hz (by omega) (.slice none 0 0) 0 [] (World.ownsRow_nil _ _ T 1) ⟨w.heap.size, 0, none⟩ 1 1 [x] rfl hnew hone hl (by simpa using hm) (Nat.le_refl _)
    obtain ⟨S', h7, h8⟩ := SlO.of_own r1
    refine ⟨v', w', S', hrun, h7, hMa.grown r2 (fun k hk => by cases hk), fun k hk => .inr ?_⟩
    have := h8 k hk
    simp at this
    omega
  · by_cases hr : xs.length + 1 ≤ cap
    · have hgl : g < w.heap.size := block_lt h2
      have h2' : (w.alloc (.cells #[x] T (0, 0))).heap[g]? = some (.cells cur T (0, 0)) := (Below.heap_alloc _ _ _ hgl).trans h2
      have hco : off + xs.length < cur.size := by omega
      have hrun := run_append_room_cells (P := P) (ty := ty) (w.alloc (.cells #[x] T (0, 0))) t T i ht i1 g off xs.length cap ⟨w.heap.size, 0, none⟩ 1 1 [x] (by rw [i3]; rfl) hnew hone hr (fun j hj => by
        simp only [List.length_cons, List.length_nil] at hj
        obtain rfl : j = 0 := by omega
        rw [i3, Nat.mul_one, Nat.add_zero, cell_block h2', Array.getElem?_eq_getElem hco]
        rfl) (fun j hj => frozen_block h2' _)
      rw [i3, Nat.mul_one] at hrun
      refine ⟨_, _, [g], hrun, ?_, ?_, fun k hk => .inl hk⟩
      · refine .inr ⟨g, off, cap, cur.setIfInBounds (off + xs.length) x, by simp, rfl, ?_, by simpa using hr, by simpa using h4, by simpa using h5, ?_⟩
        · exact block_setCell h2' x
        · rw [Array.toList_setIfInBounds, List.drop_set, if_neg (by omega), show off + xs.length - off = xs.length by omega, List.length_append, List.length_cons, List.length_nil, Nat.zero_add]
          have hlt : xs.length < (cur.toList.drop off).length := by simp; omega
          rw [List.take_succ_eq_append_getElem (by rw [List.length_set]; exact hlt), List.take_set, h6, List.getElem_set_self, List.set_eq_of_length_le (Nat.le_refl _)]
      · exact hMa.setCell (.inl (by simp)) _
    · obtain ⟨v', w', hrun, r1, r2⟩ := run_append_arg_grows (P := P) (ty := ty) (w.alloc (.cells #[x] T (0, 0))) t T i z 1 bytes ht i1 i2 i3 i4 hz (by omega) ⟨g, off, none⟩ xs.length cap xs (by simp) (fun j u hj => by
        have hgl : g < w.heap.size := block_lt h2
        have h2' : (w.alloc (.cells #[x] T (0, 0))).heap[g]? = some (.cells cur T (0, 0)) := (Below.heap_alloc _ _ _ hgl).trans h2
        obtain ⟨hjl, rfl⟩ := List.getElem?_eq_some_iff.1 hj
        have h7 : ((cur.toList.drop off).take xs.length)[j]? = some xs[j] := by rw [h6]; exact List.getElem?_eq_getElem hjl
        rw [List.getElem?_take_of_lt hjl, List.getElem?_drop] at h7
        rw [Addr.add_lit, cell_block h2', ← Array.getElem?_toList]
        exact h7) ⟨w.heap.size, 0, none⟩ 1 1 [x] rfl hnew (by omega) hl hm
      obtain ⟨S', h7, h8⟩ := SlO.of_own r1
      refine ⟨v', w', S', hrun, h7, hMa.grown r2 (fun k hk => by cases hk), fun k hk => .inr ?_⟩
      have := h8 k hk
      simp at this
      omega
end Kt
end Go.Proofs.YtpjimmdpcpcmoaaDoor
