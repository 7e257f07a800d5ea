/- The walks of package sets: Not, Or, And, Minus, All, Has, Len, Empty. -/
import Derived.Test.YteekonojmpihlaaDoorQSets1
import Derived.ChangeKeysEq
namespace Go.Proofs.YteekonojmpihlaaDoor
open Go Go.RowKit Kt
namespace Kt
theorem heap_alloc2_old (w : World) (A B : Obj) : ((w.alloc A).alloc B).heap[w.heap.size]? = some A := by
  rw [heap_alloc_old _ _ _ (by rw [World.size_alloc]; omega)]
  exact heap_alloc_new w A
end Kt
namespace St
open Mk
theorem xor64 (x : Nat) (hx : x < 18446744073709551616) : bits .xor .u64 18446744073709551615 (x : Int) = (nt x : Nat) := bits_xor_u64_nat 18446744073709551615 x (by decide) hx
set_option maxHeartbeats 1000000 in
set_option maxRecDepth 100000 in
theorem not_c (ws : List Nat) (f : Nat → Bool) (hw : IsSet ws f) (w : World) : Calls Tryd.prog 128 #[sv ws] w fun e w' => ∃ rs, e = .returned (sv rs) ∧ IsSet rs (fun c => !f c) ∧ Below w.heap.size w w' := by
  obtain ⟨x0, x1, x2, x3, rfl⟩ := four hw.len
  have h0 := hw.lt x0 (by simp)
  have h1 := hw.lt x1 (by simp)
  have h2 := hw.lt x2 (by simp)
  have h3 := hw.lt x3 (by simp)
  have n0 := xor64 x0 h0
  have n1 := xor64 x1 h1
  have n2 := xor64 x2 h2
  have n3 := xor64 x3 h3
  have hres : IsSet [nt x0, nt x1, nt x2, nt x3] (fun c => !f c) := by
    refine isSet_of (by intro x hx; simp at hx; rcases hx with rfl | rfl | rfl | rfl <;> exact nt_lt (by assumption)) fun i hi t ht => ?_
    have := hw.at' (64 * i + t) (by omega)
    rw [has_word _ _ _ ht] at this
    rw [← this]
    have hi4 : i = 0 ∨ i = 1 ∨ i = 2 ∨ i = 3 := by omega
    rcases hi4 with rfl | rfl | rfl | rfl <;> simp <;> exact nt_bit _ _ ht
  have HR := Lib.hid hres
  have HB := Lib.hid (Below.refl w.heap.size w)
  have hsg : IntKind.u64.signed = false := rfl
  have hmax : IntKind.u64.max = 18446744073709551615 := rfl
  clear hres hw
  simp only [sv, vals, List.map_cons, List.map_nil]
  go_enter Tryd.func128, Tryd.ntmps128
  go_wp2
  refine wp_loop_rounds 5 ?_
  rw [rounds_succ]
  go_wp2
  rw [rounds_succ]
  go_wp2
  rw [rounds_succ]
  go_wp2
  rw [rounds_succ]
  go_wp2
  rw [rounds_succ]
  go_wp2
  ((try simp only [Exit.inBlock, Exit.then]); refine bodyPost_ret (results_cell_row rfl _ _ (w.heap.size + 1) 34 ?cs1 (0, 0) _ rfl ?hg1 Tryd.underlying34 rfl ?hi1) rfl ?_; (case hg1 => first | exact heap_alloc2_new _ _ _ | exact Kt.heap_alloc3_new _ _ _ _ | exact Kt.heap_alloc2_old _ _ _); (case hi1 => kernel_rfl))
  exact ⟨_, rfl, HR.out, ((HB.out.alloc (Nat.le_refl _) _).alloc (by simp) _)⟩

end St
end Go.Proofs.YteekonojmpihlaaDoor
