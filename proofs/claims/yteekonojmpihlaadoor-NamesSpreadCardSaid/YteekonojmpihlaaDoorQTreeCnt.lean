import Derived.Test.YteekonojmpihlaaDoorQTreeWalk
/- tree.all, tree.Count, tree.Depth: the range over the walk. -/
namespace Go.Proofs.YteekonojmpihlaaDoor
namespace Kt
end Kt
open Go Go.RowKit Go.Shelf Kt
namespace Tr
attribute [local go_sem] Oper.semAt_some
set_option maxRecDepth 100000 in
set_option maxHeartbeats 1000000 in
/-- all(n): the node is boxed; the function value captures the box. -/
theorem all_in (m : Nat) (n : Nd) (hs : n.set.length = 4) (w : World) :
    CallsIn Fence.wide m Tryd.prog 69 #[nv n] w fun e w' => e = .returned (.func (.func 97) #[] #[.pointer (some ⟨w.heap.size, 0, none⟩)]) ∧ w' = w.alloc (.cells (cells n).toArray 37) := by
  obtain ⟨x0, x1, x2, x3, hs⟩ := four' hs
  obtain ⟨k, s, mn, mx, t, a, c, ks⟩ := n
  simp only [Nd.set] at hs
  subst hs
  have hnvk : nv (.mk k [x0, x1, x2, x3] mn mx t a c ks) = .agg #[.int .i64 k, .int .u64 (x0 : Int), .int .u64 (x1 : Int), .int .u64 (x2 : Int), .int .u64 (x3 : Int), .slice a ks.length c, .int .i64 mn, .int .i64 mx, .string (Str t)] := rfl
  have hck : (cells (.mk k [x0, x1, x2, x3] mn mx t a c ks)).toArray = #[.int .i64 k, .int .u64 (x0 : Int), .int .u64 (x1 : Int), .int .u64 (x2 : Int), .int .u64 (x3 : Int), .slice a ks.length c, .int .i64 mn, .int .i64 mx, .string (Str t)] := rfl
  rw [hnvk, hck]
  clear hnvk hck
  generalize ks.length = nl
  refine callsIn_of_wp Tryd.func69 rfl trivial ?_ rfl
  simp only [Tryd.ntmps69, List.size_toArray, List.length_cons, List.length_nil, Nat.reduceAdd, Nat.reduceSub, Array.replicate_succ, Array.replicate_zero, List.push_toArray, List.append_toArray, List.nil_append, List.cons_append]
  gi_wp2
  go_ret
  exact ⟨rfl, rfl⟩
/-- Where a range that keeps one number stands: its box, what it says. -/
structure Nr (w : World) (z b : Nat) (T : List Nat) (v : Value) (W : World) : Prop where
  T : ∀ t ∈ T, z ≤ t
  box : W.heap[b]? = some (.cells #[v] 3 (0, 0))
  B : Below w.heap.size w W
theorem Nr.mod {w : World} {z b : Nat} {T T' : List Nat} {v : Value} {A A' : World} (hz : w.heap.size ≤ z) (hb : b < z) (hA : z ≤ A.heap.size) (h : Nr w z b T v A) (hM : Mod T A A') (hT : ∀ t ∈ T', t ∈ T ∨ A.heap.size ≤ t) : Nr w z b T' v A' := by
  refine ⟨fun t ht => ?_, (hM.block b (block_lt h.box) (fun hm => by have := h.T b hm; omega)).trans h.box, h.B.trans (hM.toBelow h.B.size (fun k hk => by have := h.T k hk; omega))⟩
  rcases hT t ht with h1 | h1
  · exact h.T t h1
  · omega
end Tr
end Go.Proofs.YteekonojmpihlaaDoor
