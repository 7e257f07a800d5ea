/- Rows of ints that the call makes: a slice of slices, each of its own. -/
import Derived.Test.YteekonojmpihlaaDoorQIRows
import Derived.Test.YteekonojmpihlaaDoorQApp
import Derived.Test.YteekonojmpihlaaDoorQMarks3
namespace Go.Proofs.YteekonojmpihlaaDoor
open Go Go.RowKit
namespace Kt
set_option maxRecDepth 100000 in
theorem elII : El Tryd.prog 67 69 (.slice none 0 0) 1 24 := ⟨Tryd.underlying67, info_parts (by kernel_rfl), rfl, by decide⟩
/-- The rows L, listed by v. -/
structure IOut (base : Nat) (v : Value) (L : List IRow) (W : World) : Prop where
  own : W.ownsRow base 69 1 v L.length (L.map IRow.v)
  ok : ∀ r ∈ L, r.ok W
  apart : ∀ r ∈ L, ∀ p, r.a = some p → p.block < W.heap.size ∧ v.ownBlock ≠ some p.block
theorem IOut.nil (base : Nat) (W : World) : IOut base (.slice none 0 0) [] W := ⟨⟨rfl, .inl ⟨rfl, rfl⟩⟩, by simp, by simp⟩
theorem IOut.step {base : Nat} {v : Value} {L : List IRow} {W W' : World} (h : IOut base v L W) (hb : Below W.heap.size W W') : IOut base v L W' :=
  ⟨own_keep h.own hb, fun r hr => (h.ok r hr).keep hb, fun r hr p hp => ⟨Nat.lt_of_lt_of_le (h.apart r hr p hp).1 hb.size, (h.apart r hr p hp).2⟩⟩
/-- One more row. -/
theorem IOut.push {base : Nat} {v : Value} {L : List IRow} {W : World} {n : Nat} (h : IOut base v L W) (hn : L.length = n) (hm : n ≤ 100000) (hb : base ≤ W.heap.size) (r : IRow) (hr : r.ok W) (hp : ∀ p, r.a = some p → p.block < W.heap.size ∧ v.ownBlock ≠ some p.block) :
    ∃ a2 c2 w2, (Builtin.append_ #[67, 67] 67 #[v, .slice (some ⟨W.heap.size, 0, none⟩) 1 1]).run Tryd.prog (W.alloc (.cells #[r.v] 69)) = .ok (.slice a2 (n + 1) c2) w2 ∧
      IOut base (.slice a2 (n + 1) c2) (L ++ [r]) w2 ∧ Below base W w2 := by
  subst hn
  have b2 := (Below.refl W.heap.size W).alloc (Nat.le_refl _) (.cells #[r.v] 69)
  have hown := own_keep h.own b2
  obtain ⟨a2, c2, w2, hrun, own2, gr2, hlie⟩ := elII.any base (ty := 67) hown 1 1 (news := [r.v]) rfl (Rd.new W #[r.v] 69 (0, 0) [r.v] rfl) (fun h => by cases h) (by intro u hu; simp at hu; subst hu; rfl) (by unfold maxLen; omega) (by omega) (by simp; omega)
  have hsz : W.heap.size < (W.alloc (.cells #[r.v] 69)).heap.size := by simp
  have hg := below_grown (B := base) hown gr2 (Nat.le_refl _) (by omega)
  have hrow : ∀ q : IRow, q.ok W → (∀ p, q.a = some p → p.block < W.heap.size ∧ v.ownBlock ≠ some p.block) → q.ok w2 := fun q hq hp => ⟨hq.cap, hq.max, hq.nil, by
    have h1 := (hq.rd.keep b2)
    refine h1.mod (Mod.of_grown gr2) (fun p hpa hmm => ?_)
    have := (hp p hpa).2
    apply this
    simpa using hmm⟩
  have hap : ∀ q : IRow, (∀ p, q.a = some p → p.block < W.heap.size ∧ v.ownBlock ≠ some p.block) → ∀ p, q.a = some p → p.block < w2.heap.size ∧ (Value.slice a2 (L.length + 1) c2).ownBlock ≠ some p.block := fun q hq p hpa => by
    obtain ⟨h1, h2⟩ := hq p hpa
    refine ⟨by have := gr2.size; omega, fun he => ?_⟩
    rcases hlie _ he with h3 | h3
    · exact h2 h3
    · omega
  refine ⟨a2, c2, w2, hrun, ⟨?_, ?_, ?_⟩, ((Below.refl base W).alloc hb _).trans hg⟩
  · rw [List.map_append, List.length_append]
    exact own2
  · intro q hq
    rcases List.mem_append.1 hq with h1 | h1
    · exact hrow q (h.ok q h1) (h.apart q h1)
    · simp only [List.mem_singleton] at h1
      subst h1
      exact hrow q hr hp
  · intro q hq
    rcases List.mem_append.1 hq with h1 | h1
    · exact hap q (h.apart q h1)
    · simp only [List.mem_singleton] at h1
      subst h1
      exact hap q hp
/-- A row of the call's own, made behind B. -/
theorem IRow.of_own {w : World} {base n cap : Nat} {a : Option Addr} {l : List Int} (h : w.ownsRow base 3 1 (.slice a n cap) n (i64s l)) (hn : l.length = n) : (IRow.mk a cap l).ok w ∧ (IRow.mk a cap l).v = .slice a n cap ∧ ∀ p, a = some p → base ≤ p.block ∧ p.block < w.heap.size := by
  subst hn
  obtain ⟨a', cap', h1, h2, h3, h4, _⟩ := rd_own h
  simp only [Value.slice.injEq] at h1
  obtain ⟨rfl, _, rfl⟩ := h1
  refine ⟨⟨h2, h3, fun hn => ?_, h4⟩, rfl, fun p hp => ?_⟩
  · simp only at hn
    subst hn
    exact (own_none h).1
  · have := h.lt p.block (by rw [hp]; rfl)
    omega
end Kt
end Go.Proofs.YteekonojmpihlaaDoor
