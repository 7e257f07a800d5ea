import Derived.Test.YtpjimmdpcpcmoaaDoorQPoolPure
import Derived.Test.YtpjimmdpcpcmoaaDoorQMapP
import Derived.Test.YtpjimmdpcpcmoaaDoorQRow
import Derived.Test.YtpjimmdpcpcmoaaDoorQMarks4
/- A pool in memory. -/
namespace Go.Proofs.YtpjimmdpcpcmoaaDoor
open Go Go.RowKit Kt
namespace Po
/-- A buffer's slice. -/
def gv (size : Nat) : Option Nat → Value
  | none => .slice none 0 0
  | some g => .slice (some ⟨g, 0, none⟩) size size
def fr (own : List Int) : List Bool := own.map fun o => decide (o < 0)
/-- The accounts' blocks. -/
abbrev ab (A : List (Int × Int × Nat)) : List Nat := A.map fun a => a.2.2
abbrev am (A : List (Int × Int × Nat)) : List (Int × Nat) := A.map fun a => (a.1, a.2.2)
abbrev ac (A : List (Int × Int × Nat)) : List (Int × Int) := A.map fun a => (a.1, a.2.1)
/-- A buffer: free, or held, with its bytes. -/
def Bu (w : World) (own : List Int) (cont : List (List UInt8)) (size : Nat) (G : List (Option Nat)) (i : Nat) : Prop :=
  (G[i]? = some none ∧ ∃ o, own[i]? = some o ∧ o < 0) ∨ ∃ g o x, G[i]? = some (some g) ∧ own[i]? = some o ∧ 0 ≤ o ∧ cont[i]? = some x ∧ Rx w g 5 size (u8s x)
/-- The pool's blocks: its struct at p, the owners' row, the buffers' row, the marks, the map, the accounts, the buffers. -/
structure PB (w : World) (p ob oc bb mz mg mb : Nat) (A : List (Int × Int × Nat)) (G : List (Option Nat)) (m : Md) : Prop where
  hp : w.heap[p]? = some (.cells #[.slice (some ⟨bb, 0, none⟩) m.own.length m.own.length, .slice (some ⟨ob, 0, none⟩) m.own.length oc, .pointer (some ⟨mz, 0, none⟩), .map (some mb), .int .i64 (m.size : Int), .int .i64 (used m.own : Int)] 96 (0, 0))
  ho : Rx w ob 3 oc (i64s m.own)
  oc : oc ≤ maxLen
  hb : Rx w bb 54 m.own.length (G.map (gv m.size))
  hm : Mk.MI w mz mg (fr m.own)
  hM : MapP Tryd.prog 3 w mb A.length (am A)
  hA : m.acc = ac A
  ha : ∀ a ∈ A, w.heap[a.2.2]? = some (.cells #[.int .i64 a.2.1, .int .i64 (held m.own a.1 : Int)] 101 (0, 0))
  hG : G.length = m.own.length
  hg : ∀ i, i < m.own.length → Bu w m.own m.cont m.size G i
  nd : (p :: ob :: bb :: mz :: mg :: mb :: (ab A ++ G.filterMap id)).Nodup
/-- A pool at p with the blocks L. -/
structure PI (w : World) (p : Nat) (L : List Nat) (m : Md) : Prop where
  ex : ∃ ob oc bb mz mg mb A G, PB w p ob oc bb mz mg mb A G m ∧ L = p :: ob :: bb :: mz :: mg :: mb :: (ab A ++ G.filterMap id)
  ok : Ok m
variable {w w' : World} {p ob oc bb mz mg mb : Nat} {A : List (Int × Int × Nat)} {G : List (Option Nat)} {m : Md} {L : List Nat}
theorem mem_gs {G : List (Option Nat)} {i g : Nat} (h : G[i]? = some (some g)) : g ∈ G.filterMap id := List.mem_filterMap.2 ⟨some g, List.mem_of_getElem? h, rfl⟩
theorem PB.lts (h : PB w p ob oc bb mz mg mb A G m) : ∀ k ∈ p :: ob :: bb :: mz :: mg :: mb :: (ab A ++ G.filterMap id), k < w.heap.size := by
  intro k hk
  simp only [List.mem_cons, List.mem_append] at hk
  rcases hk with rfl | rfl | rfl | rfl | rfl | rfl | hk | hk
  · exact block_lt h.hp
  · exact h.ho.lt
  · exact h.hb.lt
  · exact h.hm.plt
  · exact h.hm.blt
  · exact h.hM.lt
  · obtain ⟨a, ha, rfl⟩ := List.mem_map.1 hk
    exact block_lt (h.ha a ha)
  · obtain ⟨o, ho, he⟩ := List.mem_filterMap.1 hk
    simp only [id] at he
    subst he
    obtain ⟨i, hi, hx⟩ := List.getElem_of_mem ho
    rcases h.hg i (by rw [← h.hG]; exact hi) with ⟨h1, _⟩ | ⟨g, _, _, h1, _, _, _, h2⟩
    · rw [List.getElem?_eq_getElem hi, hx] at h1; cases h1
    · rw [List.getElem?_eq_getElem hi, hx] at h1
      simp only [Option.some.injEq] at h1
      rw [h1]
      exact h2.lt
theorem PB.mod {S : List Nat} (h : PB w p ob oc bb mz mg mb A G m) (hM : Mod S w w') (hS : ∀ k ∈ p :: ob :: bb :: mz :: mg :: mb :: (ab A ++ G.filterMap id), k ∉ S) : PB w' p ob oc bb mz mg mb A G m := by
  have hl := h.lts
  refine ⟨(hM.block p (hl p (by simp)) (hS p (by simp))).trans h.hp, h.ho.mod hM (hS ob (by simp)), h.oc, h.hb.mod hM (hS bb (by simp)), h.hm.mod hM (hS mz (by simp)) (hS mg (by simp)), h.hM.mod hM (hS mb (by simp)), h.hA, fun a ha => ?_, h.hG, fun i hi => ?_, h.nd⟩
  · have hk : a.2.2 ∈ p :: ob :: bb :: mz :: mg :: mb :: (ab A ++ G.filterMap id) := by simp only [List.mem_cons, List.mem_append]; exact .inr (.inr (.inr (.inr (.inr (.inr (.inl (List.mem_map.2 ⟨a, ha, rfl⟩)))))))
    exact (hM.block _ (hl _ hk) (hS _ hk)).trans (h.ha a ha)
  · rcases h.hg i hi with h1 | ⟨g, o, x, h1, h2, h3, h4, h5⟩
    · exact .inl h1
    · have hk : g ∈ p :: ob :: bb :: mz :: mg :: mb :: (ab A ++ G.filterMap id) := by simp only [List.mem_cons, List.mem_append]; exact .inr (.inr (.inr (.inr (.inr (.inr (.inr (mem_gs h1)))))))
      exact .inr ⟨g, o, x, h1, h2, h3, h4, h5.mod hM (hS _ hk)⟩
theorem PI.lts (h : PI w p L m) : ∀ k ∈ L, k < w.heap.size := by obtain ⟨_, _, _, _, _, _, _, _, h1, rfl⟩ := h.ex; exact h1.lts
theorem PI.mod {S : List Nat} (h : PI w p L m) (hM : Mod S w w') (hS : ∀ k ∈ L, k ∉ S) : PI w' p L m := by
  obtain ⟨ob, oc, bb, mz, mg, mb, A, G, h1, rfl⟩ := h.ex
  exact ⟨⟨ob, oc, bb, mz, mg, mb, A, G, h1.mod hM hS, rfl⟩, h.ok⟩
theorem PI.below (h : PI w p L m) (hb : Below w.heap.size w w') : PI w' p L m := h.mod (Mod.of_below hb []) (by simp)
/-- The blocks L' are among L, or lie from B on. -/
def Fr (L' L : List Nat) (B : Nat) : Prop := ∀ k ∈ L', k ∈ L ∨ B ≤ k
theorem ints_len (l : List Int) : (i64s l).length = l.length := by simp [i64s]
theorem PB.lk_iff (h : PB w p ob oc bb mz mg mb A G m) (x : Int) : lk (am A) x = none ↔ crd m.acc x = none := by
  rw [lk_none, crd_none, h.hA]
  simp [List.map_map, Function.comp_def]
/-- An account's block. -/
theorem PB.acct (h : PB w p ob oc bb mz mg mb A G m) {x c : Int} (hc : crd m.acc x = some c) : ∃ b, lk (am A) x = some b ∧ (x, c, b) ∈ A := by
  cases hl : lk (am A) x with
  | none => rw [(h.lk_iff x).1 hl] at hc; cases hc
  | some b =>
    refine ⟨b, rfl, ?_⟩
    unfold Kt.lk at hl
    rw [Option.map_eq_some_iff] at hl
    obtain ⟨y, h1, rfl⟩ := hl
    have h2 := List.find?_some h1
    simp only [decide_eq_true_eq] at h2
    obtain ⟨a, ha, rfl⟩ := List.mem_map.1 (List.mem_of_find?_eq_some h1)
    simp only at h2
    subst h2
    have h3 : (a.1, a.2.1) ∈ m.acc := by rw [h.hA]; exact List.mem_map.2 ⟨a, ha, rfl⟩
    have h4 : (m.acc.map (·.1)).Nodup := by
      have := h.hM.nd
      rw [h.hA]
      simpa [List.map_map, Function.comp_def] using this
    rw [mem_crd h4 h3] at hc
    simp only [Option.some.injEq] at hc
    subst hc
    exact ha
end Po
end Go.Proofs.YtpjimmdpcpcmoaaDoor
