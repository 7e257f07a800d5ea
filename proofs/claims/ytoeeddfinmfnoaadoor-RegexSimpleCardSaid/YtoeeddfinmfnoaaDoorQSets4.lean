import Derived.RangeFuncNested
import Derived.RangeFuncBound
import Derived.RangeFuncCalls
import Derived.RangeFuncLeaves
import Derived.RangeFuncBox
import Derived.Shelf.Abstract
import Derived.Shelf.RegionOpen
import Derived.OwnWalkIn
import Derived.TacticsInMore
import Derived.LoopNIn
import Derived.LoopIn
import Derived.Maps.AppendAt
import Derived.Test.YtoeeddfinmfnoaaDoorQSetsIs
import Derived.Test.YtoeeddfinmfnoaaDoorQBits
import Derived.Laws.IdiomArrays
import Derived.OpenShut
import Derived.ChangeKeysEq
/- The iterator of sets: (Set).all. Condition: the table of TrailingZeros64 reads as laid. -/
namespace Go.Proofs.YtoeeddfinmfnoaaDoor
namespace Kt
end Kt
open Go Go.RowKit Go.Shelf Kt
namespace St
open Mk
attribute [local go_sem] Oper.semAt_some
def vals (ws : List Nat) : List Value := ws.map fun (x : Nat) => .int .u64 (x : Int)
/-- A set's value. -/
def sv (ws : List Nat) : Value := .agg (vals ws).toArray
end St
end Go.Proofs.YtoeeddfinmfnoaaDoor

/- A set that came in. -/
namespace Go.Proofs.YtoeeddfinmfnoaaDoor
open Go Go.RowKit Kt
namespace St
open Mk
theorem wf_u64 {n : Int} (h : (Lit.int .u64 n).wf = true) : ∃ c : Nat, n = (c : Int) ∧ c < 18446744073709551616 := by
  have h1 : 0 ≤ n ∧ n ≤ 18446744073709551615 := bounds_u64 h
  exact ⟨n.toNat, by omega, by omega⟩
end St
end Go.Proofs.YtoeeddfinmfnoaaDoor

/- The walks of package sets: Not, Or, And, Minus, All, Has, Len, Empty. -/
namespace Go.Proofs.YtoeeddfinmfnoaaDoor
open Go Go.RowKit Kt
namespace Kt
theorem heap_alloc3_new (w : World) (A B C : Obj) : (((w.alloc A).alloc B).alloc C).heap[w.heap.size + 2]? = some C := by
  have h := heap_alloc_new ((w.alloc A).alloc B) C
  rw [World.size_alloc, World.size_alloc] at h
  exact h
theorem heap_alloc2_old (w : World) (A B : Obj) : ((w.alloc A).alloc B).heap[w.heap.size]? = some A := by
  rw [heap_alloc_old _ _ _ (by rw [World.size_alloc]; omega)]
  exact heap_alloc_new w A
end Kt
namespace St
open Mk
theorem xor64 (x : Nat) (hx : x < 18446744073709551616) : bits .xor .u64 18446744073709551615 (x : Int) = (nt x : Nat) := bits_xor_u64_nat 18446744073709551615 x (by decide) hx
set_option maxHeartbeats 1000000 in
set_option maxRecDepth 100000 in
theorem not_c (ws : List Nat) (f : Nat → Bool) (hw : IsSet ws f) (w : World) : Calls Tryd.prog 124 #[sv ws] w fun e w' => ∃ rs, e = .returned (sv rs) ∧ IsSet rs (fun c => !f c) ∧ Below w.heap.size w w' := by
  obtain ⟨x0, x1, x2, x3, rfl⟩ := four hw.len
  have h0 := hw.lt x0 (by simp)
  have h1 := hw.lt x1 (by simp)
  have h2 := hw.lt x2 (by simp)
  have h3 := hw.lt x3 (by simp)
  have n0 := xor64 x0 h0
  have n1 := xor64 x1 h1
  have n2 := xor64 x2 h2
  have n3 := xor64 x3 h3
  have hres : IsSet [nt x0, nt x1, nt x2, nt x3] (fun c => !f c) := by
    refine isSet_of (by intro x hx; simp at hx; rcases hx with rfl | rfl | rfl | rfl <;> exact nt_lt (by assumption)) fun i hi t ht => ?_
    have := hw.at' (64 * i + t) (by omega)
    rw [has_word _ _ _ ht] at this
    rw [← this]
    have hi4 : i = 0 ∨ i = 1 ∨ i = 2 ∨ i = 3 := by omega
    rcases hi4 with rfl | rfl | rfl | rfl <;> simp <;> exact nt_bit _ _ ht
  have HR := Lib.hid hres
  have HB := Lib.hid (Below.refl w.heap.size w)
  have hsg : IntKind.u64.signed = false := rfl
  have hmax : IntKind.u64.max = 18446744073709551615 := rfl
  clear hres hw
  simp only [sv, vals, List.map_cons, List.map_nil]
  go_enter Tryd.func124, Tryd.ntmps124
  go_wp2
  refine wp_loop_rounds 5 ?_
  rw [rounds_succ]
  go_wp2
  rw [rounds_succ]
  go_wp2
  rw [rounds_succ]
  go_wp2
  rw [rounds_succ]
  go_wp2
  rw [rounds_succ]
  go_wp2
  ((try simp only [Exit.inBlock, Exit.then]); refine bodyPost_ret (results_cell_row rfl _ _ (w.heap.size + 1) 24 ?cs1 (0, 0) _ rfl ?hg1 Tryd.underlying24 rfl ?hi1) rfl ?_; (case hg1 => first | exact heap_alloc2_new _ _ _ | exact Kt.heap_alloc3_new _ _ _ _ | exact Kt.heap_alloc2_old _ _ _); (case hi1 => kernel_rfl))
  exact ⟨_, rfl, HR.out, ((HB.out.alloc (Nat.le_refl _) _).alloc (by simp) _)⟩

set_option maxHeartbeats 2000000 in
set_option maxRecDepth 100000 in
theorem or_c (ws us : List Nat) (f g : Nat → Bool) (hw : IsSet ws f) (hu : IsSet us g) (w : World) : Calls Tryd.prog 33 #[sv ws, sv us] w fun e w' => ∃ rs, e = .returned (sv rs) ∧ IsSet rs (fun c => f c || g c) ∧ Below w.heap.size w w' := by
  obtain ⟨x0, x1, x2, x3, rfl⟩ := four hw.len
  obtain ⟨y0, y1, y2, y3, rfl⟩ := four hu.len
  have h0 := hw.lt x0 (by simp)
  have h1 := hw.lt x1 (by simp)
  have h2 := hw.lt x2 (by simp)
  have h3 := hw.lt x3 (by simp)
  have k0 := hu.lt y0 (by simp)
  have k1 := hu.lt y1 (by simp)
  have k2 := hu.lt y2 (by simp)
  have k3 := hu.lt y3 (by simp)
  have n0 := bits_or_u64_nat x0 y0 h0 k0
  have n1 := bits_or_u64_nat x1 y1 h1 k1
  have n2 := bits_or_u64_nat x2 y2 h2 k2
  have n3 := bits_or_u64_nat x3 y3 h3 k3
  have hres : IsSet [x0 ||| y0, x1 ||| y1, x2 ||| y2, x3 ||| y3] (fun c => f c || g c) := by
    refine isSet_of (by intro x hx; simp at hx; rcases hx with rfl | rfl | rfl | rfl <;> exact or64 (by assumption) (by assumption)) fun i hi t ht => ?_
    have e1 := hw.at' (64 * i + t) (by omega)
    have e2 := hu.at' (64 * i + t) (by omega)
    rw [has_word _ _ _ ht] at e1 e2
    rw [← e1, ← e2]
    have hi4 : i = 0 ∨ i = 1 ∨ i = 2 ∨ i = 3 := by omega
    rcases hi4 with rfl | rfl | rfl | rfl <;> simp
  have HR := Lib.hid hres
  have HB := Lib.hid (Below.refl w.heap.size w)
  clear hres hw hu
  generalize x0 ||| y0 = z0 at *
  generalize x1 ||| y1 = z1 at *
  generalize x2 ||| y2 = z2 at *
  generalize x3 ||| y3 = z3 at *
  simp only [sv, vals, List.map_cons, List.map_nil]
  go_enter Tryd.func33, Tryd.ntmps33
  go_wp2
  refine wp_loop_rounds 5 ?_
  rw [rounds_succ]
  go_wp2
  go_region
  go_wp2
  rw [rounds_succ]
  go_wp2
  go_region
  go_wp2
  rw [rounds_succ]
  go_wp2
  go_region
  go_wp2
  rw [rounds_succ]
  go_wp2
  go_region
  go_wp2
  rw [rounds_succ]
  go_wp2
  ((try simp only [Exit.inBlock, Exit.then]); refine bodyPost_ret (results_cell_row rfl _ _ (w.heap.size + 2) 24 ?cs2 (0, 0) _ rfl ?hg2 Tryd.underlying24 rfl ?hi2) rfl ?_; (case hg2 => first | exact heap_alloc2_new _ _ _ | exact Kt.heap_alloc3_new _ _ _ _ | exact Kt.heap_alloc2_old _ _ _); (case hi2 => kernel_rfl))
  exact ⟨_, rfl, HR.out, (((HB.out.alloc (Nat.le_refl _) _).alloc (by simp) _).alloc (by simp; omega) _).drew.drew.drew.drew⟩

end St
end Go.Proofs.YtoeeddfinmfnoaaDoor
